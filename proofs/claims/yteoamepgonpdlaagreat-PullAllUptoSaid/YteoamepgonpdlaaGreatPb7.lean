/-
Part 7 of the proof that stands in YteoamepgonpdlaaGreatPbRow, with what it needs from the parts ahead; the parts of this text: Rd, Tbl, RowG, RowF, Lays, Gh.
-/
import Derived.Test.YteoamepgonpdlaaGreatRows
import Derived.Test.YteoamepgonpdlaaGreatProg
import Derived.Deep.Slices
import Derived.Deep.Fields
import Derived.OpenShut
import Derived.WalkKit
import Derived.ProofKit
import Derived.JoinedCond
import Derived.Below
import Derived.Carry
import Derived.ChangeSame
import Derived.Shelf.SlIter.Nil
import Derived.Shelf.SlIterI.Nil
import Derived.Shelf.SortM.Plain
import Derived.Shelf.SortM.SortNone
import Derived.Shelf.SlMaps.Clone
import Derived.Ground.GgzProg
import Derived.Ground.SlgmProg
import Derived.Ground.SlmcProg
import Derived.Test.YteoamepgonpdlaaGreatPb6
namespace Go.Proofs.YteoamepgonpdlaaGreat
set_option linter.unusedVariables false
set_option linter.unusedSimpArgs false
open Go.RowKit Go.ChangeShapes Go.WideShapes Go.Deep
noncomputable def fM:(u:U)→aJ u→Nat
 | .int _,_=>1
 | .u8,_=>1
 | .bool,_=>1
 | .str,s=>1+List.length s
 | .aW,_=>1
 | .dg,_=>1
 | .fn,_=>1
 | .sl u,xs=>1+(List.map (fM u) xs).sum
 | .pr u v,p=>fM u p.1+fM v p.2
 | .arr _ u,xs=>(List.map (fM u) xs).sum
def sH:(u:U)→aJ u→Prop
 | .int k,n=>(Lit.int k n).wf=true
 | .sl u,xs=> ∀x,Cf (α:=aJ u) x xs→sH u x
 | .pr u v,p=>sH u p.1∧sH v p.2
 | .arr _ u,xs=> ∀x,Cf (α:=aJ u) x xs→sH u x
 |_,_=>True
def pY (P:Program) (ty:U→TypeId→Bool):U→List Field→Nat→Bool
 |_,[],_=>false
 |u,[f],off=>Nat.beq f.offset off&&ty u f.type&&Nat.beq (P.cellsOf f.type) (aM u)
 | .pr u v,f::g::fs,off=>Nat.beq f.offset off&&ty u f.type&&Nat.beq (P.cellsOf f.type) (aM u)&&pY P ty v (g::fs) (off+aM u)
 |_,_::_::_,_=>false
def pZ (P:Program):Nat→U→TypeId→Bool
 |0,_,_=>false
 |n+1,u,t=>match P.underlying t,u with
  |some (.int k),.int k'=>lC k k'
  |some (.int k),.u8=>lC k .u8
  |some .bool,.bool=>true
  |some .string,.str=>true
  |some (.slice e),.sl v=>pZ P n v e&&Nat.beq (P.cellsOf e) (aM v)&&Nat.blt 0 (aM v)
  |some (.array m e),.arr m' v=>Nat.beq m m'&&pZ P n v e&&Nat.beq (P.cellsOf e) (aM v)
  |some (.struct fs),u=>pY P (pZ P n) u fs.toList 0
  |_,_=>false
section
variable {H:Type} {enc:TypeId×Value→H} {w:World} {base:Nat} {spare:Nat→Bool} {held:Bool} {P:Program}
theorem Gm (d:DataW H):1≤Rows.uptoBulk d:=by
 unfold Rows.uptoBulk
 split <;>omega
theorem LF (l r:List (DataW H)):Rows.uptoBulkAll (l++r)=Rows.uptoBulkAll l+Rows.uptoBulkAll r:=by
 induction l with
 |nil=>simp[Rows.uptoBulkAll]
 |cons x l aY=>simp only[List.cons_append,Rows.uptoBulkAll,aY];omega
def LG (w:World) (u:U) (cs:List Value) (b:Nat):Prop:= ∃a:aJ u,cg (fun b=>b < w.heap.size) w u a (fun j=>cs[j]?)∧fM u a≤b∧sH u a
theorem wZ {I:Nat→Prop} {u:U} {a:aJ u} {c bY:Nat→Option Value} (h:cg I w u a c) (hc: ∀j v,c j=some v→bY j=some v):cg I w u a bY:=cg.mono (Ext.refl I w) u a c bY hc h
theorem Gn {cs:List Value} {o k j:Nat} {v:Value} (h:((cs.drop o).take k)[j]? =some v):cs[o+j]? =some v:=by
 rw[List.getElem?_take] at h
 split at h
 ·rwa[List.getElem?_drop] at h
 ·cases h
theorem LH {ty:U→TypeId→Bool} {n:Nat} (aY: ∀u t,ty u t=true→ ∀cs x,DataW.trod enc P w base spare held n t cs=some x→LG w u cs (Rows.uptoBulk x.1)):
  ∀(fs:List Field) (u:U) (off:Nat) (xs:List (DataW H×List MemPlace)) (cs:List Value),pY P ty u fs off=true→xs.length=fs.length→
   (∀(i:Nat) (f:Field),fs[i]? =some f→DataW.trod enc P w base spare held n f.type ((cs.drop f.offset).take (P.cellsOf f.type))=xs[i]?)→
   ∃a:aJ u,cg (fun b=>b < w.heap.size) w u a (fun j=>cs[off+j]?)∧fM u a≤Rows.uptoBulkAll (xs.map (·.1))∧sH u a
 | [],u,off,xs,cs,h,_,_=>by simp[pY] at h
 | [f],u,off,xs,cs,h,aB,hf=>by
  simp only[pY,Bool.and_eq_true,Nat.beq_eq] at h
  obtain⟨⟨aa,af⟩,aA⟩:=h
  match xs,aB with
  | [x],_=>
   obtain⟨a,cK,c5,fU⟩:=aY _ _ af _ _ (hf 0 f rfl)
   subst aa
   exact⟨a,wZ cK fun j v hv=>Gn hv,by simpa[Rows.uptoBulkAll] using c5,fU⟩
 |f::g::fs,.pr u v,off,xs,cs,h,aB,hf=>by
  simp only[pY,Bool.and_eq_true,Nat.beq_eq] at h
  obtain⟨⟨⟨aa,af⟩,aA⟩,bE⟩:=h
  match xs,aB with
  |x::xs,aB=>
   obtain⟨a,cK,c5,fU⟩:=aY _ _ af _ _ (hf 0 f rfl)
   obtain⟨b,r1,r2,gv⟩:=LH aY (g::fs) v (off+aM u) xs cs bE (by simpa using aB) (fun i f ay=>hf (i+1) f ay)
   subst aa
   refine⟨(a,b),⟨wZ cK fun j v hv=>Gn hv,wZ r1 fun j v hv=>by simpa only[Nat.add_assoc] using hv⟩,?_,fU,gv⟩
   simp only[fM,List.map_cons,Rows.uptoBulkAll]
   omega
 |_::_::_,.int _,_,_,_,h,_,_=>by simp[pY] at h
 |_::_::_,.u8,_,_,_,h,_,_=>by simp[pY] at h
 |_::_::_,.bool,_,_,_,h,_,_=>by simp[pY] at h
 |_::_::_,.str,_,_,_,h,_,_=>by simp[pY] at h
 |_::_::_,.aW,_,_,_,h,_,_=>by simp[pY] at h
 |_::_::_,.sl _,_,_,_,h,_,_=>by simp[pY] at h
 |_::_::_,.arr _ _,_,_,_,h,_,_=>by simp[pY] at h
theorem LI {α:Type} {l:List α} {y x:α} {i:Nat} (h:ff (l++[y]) i=some x):(i < l.length∧ff l i=some x)∨(i=l.length∧x=y):=by
 unfold ff at*
 rcases Nat.lt_trichotomy i l.length with aa |aa |aa
 ·rw[List.getElem?_append_left aa] at h;exact .inl ⟨aa,h⟩
 ·subst aa
  simp only[List.getElem?_concat_length,Option.some.injEq] at h
  exact .inr ⟨rfl,h.symm⟩
 ·rw[List.getElem?_eq_none (by simp;omega)] at h
  cases h
theorem Df: ∀(n:Nat) (u:U) (t:TypeId),pZ P n u t=true→ ∀(m:Nat) (cs:List Value) (x:DataW H×List MemPlace),DataW.trod enc P w base spare held m t cs=some x→LG w u cs (Rows.uptoBulk x.1)
 |0,u,t,h,_,_,_,_=>by simp[pZ] at h
 |n+1,u,t,h,m,cs,x,hx=>by
  unfold pZ at h
  split at h
  case h_1 k k' hu=>
   obtain rfl:=nD h
   obtain⟨i,rfl,rfl,hw⟩:=DataW.trod_int hu hx
   exact⟨i,rfl,Gm _,hw⟩
  case h_2 k hu=>
   obtain rfl:=nD h
   obtain⟨i,rfl,rfl,hw⟩:=DataW.trod_int hu hx
   have au:0≤i∧i < 256:=by
    simp[Lit.wf,IntKind.min,IntKind.max,IntKind.bits,IntKind.signed] at hw
    omega
   refine⟨(UInt8.ofNat i.toNat:UInt8),?_,Gm _,trivial⟩
   show some (Value.int .u8 i)=some (Value.int .u8 _)
   congr 2
   rw[UInt8.toNat_ofNat']
   omega
  case h_3 hu=>
   obtain⟨b,rfl,rfl⟩:=DataW.trod_bool hu hx
   exact⟨b,rfl,Gm _,trivial⟩
  case h_4 hu=>
   obtain⟨s,rfl,rfl,hs⟩:=DataW.trod_string hu hx
   refine⟨(s.data.toList:List UInt8),rfl,?_,trivial⟩
   simp only[fM,Rows.uptoBulk]
   omega
  case h_5 e v hu=>
   simp only[Bool.and_eq_true,Nat.beq_eq] at h
   obtain⟨⟨aa,af⟩,aA⟩:=h
   have aA:0 < aM v:=by simpa[Nat.blt_eq] using aA
   rcases open_slice hu hx with⟨rfl,rfl⟩ |⟨a,len,cap,m',wF,D,bn,rfl,eC,aB,hm,SJ,rfl,Dg⟩
   ·refine⟨([]:List (aJ v)),⟨none,0,rfl,Nat.le_refl _,Nat.zero_le _,fun h=>absurd h (Nat.lt_irrefl 0)⟩,by simp[fM,Rows.uptoBulk],fun x hx=>by cases hx⟩
   ·rw[af] at Dg
    have abc:len≤m':=by rw[SJ];split <;>omega
    have key: ∀k,k≤len→ ∃l:List (aJ v),l.length=k∧(l.map (fM v)).sum≤Rows.uptoBulkAll ((List.range k).map D)∧(∀x,x∈l→sH v x)∧
      (∀i x,ff l i=some x→cg (fun b=>b < w.heap.size) w v x (fun j=>if j < aM v then w.cell? ((a.add (i*aM v)).add j) else none)):=by
     intro k
     induction k with
     |zero=>exact fun _=>⟨[],rfl,by simp,(fun x h=>by cases h),fun i x h=>by simp[ff] at h⟩
     |succ k SK=>
      intro au
      obtain⟨l,lF,Ao,w5,w6⟩:=SK (by omega)
      obtain⟨SL,hc,SM⟩:=Dg k (by omega)
      obtain⟨y,w8,rE,AP⟩:=Df n v e aa _ _ _ SM
      obtain⟨-,cQ,lI⟩:=World.cells?_some hc
      refine⟨l++[y],by simp[lF],?_,?_,?_⟩
      ·rw[List.range_succ,List.map_append,List.map_append,List.sum_append,LF]
       have rE:fM v y≤Rows.uptoBulk (D k):=rE
       simp only[Rows.uptoBulkAll,List.map_cons,List.map_nil,List.sum_cons,List.sum_nil]
       omega
      ·intro x hx
       rcases List.mem_append.1 hx with hx |hx
       ·exact w5 x hx
       ·simp at hx;subst hx;exact AP
      ·intro i x ay
       rcases LI ay with⟨_,ay⟩ |⟨rfl,rfl⟩
       ·exact w6 i x ay
       ·rw[lF]
        refine wZ w8 fun j v' hv=>?_
        have ak:=(List.getElem?_eq_some_iff.1 hv).1
        rw[if_pos (by omega),lI j (by omega)]
        exact hv
    obtain⟨l,lF,Ao,w5,w6⟩:=key len (Nat.le_refl _)
    refine⟨l,⟨some a,cap,by rw[show List.length (α:=aJ v) l=len from lF];rfl,by rw[show List.length (α:=aJ v) l=len from lF];exact aB,hm,fun aC=>?_⟩,?_,w5⟩
    ·have aC:0 < len:=by rw[←lF];exact aC
     obtain⟨SL,hc,_⟩:=Dg 0 (by omega)
     obtain⟨-,cQ,lI⟩:=World.cells?_some hc
     have AQ:=lI 0 (by omega)
     rw[List.getElem?_eq_getElem (by omega)] at AQ
     obtain⟨b,o,spot⟩:=a
     have SN:spot=none:=by simpa[Addr.add] using World.cell?_spot AQ
     subst SN
     have eC:=World.block_lt_of_cell? w _ AQ
     refine⟨b,o,rfl,by simpa[Addr.add] using eC,fun i x ay=>wZ (w6 i x ay) fun j v' hv=>?_⟩
     split at hv
     ·rwa[add_plain,add_plain,Nat.add_assoc] at hv
     ·cases hv
    ·simp only[fM,Rows.uptoBulk]
     exact(show 1+(l.map (fM v)).sum≤_ by omega)
  case h_6 k e k' v hu=>
   simp only[Bool.and_eq_true,Nat.beq_eq] at h
   obtain⟨⟨aC,aa⟩,af⟩:=h
   subst aC
   obtain⟨xs,m',rfl,rfl,aB,uY,hf⟩:=DataW.trod_array hu hx
   rw[af] at hf
   have key: ∀q,q≤k→ ∃l:List (aJ v),l.length=q∧(l.map (fM v)).sum≤Rows.uptoBulkAll ((xs.take q).map (·.1))∧(∀x,x∈l→sH v x)∧
     (∀i x,ff l i=some x→cg (fun b=>b < w.heap.size) w v x (fun j=>cs[i*aM v+j]?)):=by
    intro q
    induction q with
    |zero=>exact fun _=>⟨[],rfl,by simp,(fun x h=>by cases h),fun i x h=>by simp[ff] at h⟩
    |succ q SP=>
     intro bh
     obtain⟨l,lF,Ao,w5,w6⟩:=SP (by omega)
     have LJ:=hf q (by omega)
     rw[List.getElem?_eq_getElem (by omega)] at LJ
     obtain⟨y,w8,rE,AP⟩:=Df n v e aa _ _ _ LJ
     refine⟨l++[y],by simp[lF],?_,?_,?_⟩
     ·rw[List.take_add_one,List.getElem?_eq_getElem (by omega),List.map_append,List.map_append,List.sum_append,LF]
      simp only[Rows.uptoBulkAll,List.map_cons,List.map_nil,List.sum_cons,List.sum_nil,Option.toList_some]
      omega
     ·intro x hx
      rcases List.mem_append.1 hx with hx |hx
      ·exact w5 x hx
      ·simp at hx;subst hx;exact AP
     ·intro i x ay
      rcases LI ay with⟨_,ay⟩ |⟨rfl,rfl⟩
      ·exact w6 i x ay
      ·rw[lF]
       exact wZ w8 fun j v' hv=>Gn hv
   obtain⟨l,lF,Ao,w5,w6⟩:=key k (Nat.le_refl _)
   refine⟨l,⟨lF,w6⟩,?_,w5⟩
   rw[List.take_of_length_le (by omega)] at Ao
   simp only[fM,Rows.uptoBulk]
   exact(show(l.map (fM v)).sum≤_ by omega)
  case h_7 sk fs hu=>
   obtain⟨xs,m',rfl,rfl,aB,uY,hf⟩:=DataW.trod_struct hu hx
   obtain⟨a,cK,c5,fU⟩:=LH (fun u t cl cs x h=>Df n u t cl _ cs x h) fs.toList _ 0 xs cs h (by simpa using uY) (fun i f ay=>hf i f (by simpa using ay))
   refine⟨a,wZ cK fun j v hv=>by rw[Nat.zero_add] at hv;exact hv,?_,fU⟩
   simp only[Rows.uptoBulk]
   omega
  case h_8=>cases h
end
end Go.Proofs.YteoamepgonpdlaaGreat
namespace Go.Proofs.YteoamepgonpdlaaGreat
open Go.RowKit
namespace tY
def t3:cD:=⟨.int .i64,1,false,[.d (.int .i64 0)],[],some (.int .i64),8⟩
def t4:cD:=⟨.bool,1,false,[.d (.lit false)],[],some .bool,1⟩
def t5:cD:=⟨.int .u8,1,false,[.d (.int .u8 0)],[],some .u8,1⟩
def t9:cD:=⟨.str,1,false,[.d (.str [])],[],some .str,16⟩
def t21:cD:=⟨.int .i32,1,false,[.d (.int .i32 0)],[],some (.int .i32),4⟩
def t22:cD:=⟨.sl 38,1,false,[.ee],[],some (.sl (.pr (.int .i64) (.pr (.int .i64) (.pr .str (.pr .str (.pr (.int .i64) (.pr (.int .i64) (.pr (.int .i64) (.pr (.sl .u8) .str))))))))),24⟩
def t23:cD:=⟨.ptr 99,1,false,[.raw (.pointer none)],[],some .aW,8⟩
def t24:cD:=⟨.int .i64,1,false,[.d (.int .i64 0)],[],some (.int .i64),8⟩
def t27:cD:=⟨.sl 124,1,false,[.ee],[],some (.sl (.pr .str (.pr .str (.pr (.int .i64) (.pr (.int .i64) (.pr (.sl (.pr (.int .i64) (.int .i64))) (.pr (.sl (.pr .str (.sl (.pr (.int .i64) (.int .i64))))) (.sl .str)))))))),24⟩
def t29:cD:=⟨.st,3,true,[.d (.int .i64 0),.d (.int .i64 0),.ee],[(0,1),(1,1),(2,1)],some (.pr (.int .i64) (.pr (.int .i64) (.sl (.pr .str (.pr .str (.pr (.int .i64) (.pr (.int .i64) (.pr (.sl (.pr (.int .i64) (.int .i64))) (.pr (.sl (.pr .str (.sl (.pr (.int .i64) (.int .i64))))) (.sl .str)))))))))),40⟩
def t34:cD:=⟨.sl 5,1,false,[.ee],[],some (.sl .u8),24⟩
def t36:cD:=⟨.st,5,true,[.d (.int .i64 0),.d (.int .i64 0),.d (.int .i64 0),.ee,.d (.str [])],[(0,1),(1,1),(2,1),(3,1),(4,1)],some (.pr (.int .i64) (.pr (.int .i64) (.pr (.int .i64) (.pr (.sl .u8) .str)))),64⟩
def t38:cD:=⟨.st,9,true,[.d (.int .i64 0),.d (.int .i64 0),.d (.str []),.d (.str []),.d (.int .i64 0),.d (.int .i64 0),.d (.int .i64 0),.ee,.d (.str [])],[(0,1),(1,1),(2,1),(3,1),(4,5)],some (.pr (.int .i64) (.pr (.int .i64) (.pr .str (.pr .str (.pr (.int .i64) (.pr (.int .i64) (.pr (.int .i64) (.pr (.sl .u8) .str)))))))),112⟩
def t46:cD:=⟨.sl 114,1,false,[.ee],[],some (.sl (.pr (.int .i64) (.pr (.int .i64) (.int .i64)))),24⟩
def t49:cD:=⟨.ptr 165,1,false,[.raw (.pointer none)],[],some .aW,8⟩
def t54:cD:=⟨.st,2,true,[.d (.str []),.d (.str [])],[(0,1),(1,1)],some (.pr .str .str),32⟩
def t55:cD:=⟨.sl 66,1,false,[.ee],[],some (.sl (.pr (.int .i64) (.pr (.int .i64) (.pr (.int .i64) (.pr (.int .i64) (.pr (.sl .u8) .str)))))),24⟩
def t58:cD:=⟨.ptr 137,1,false,[.raw (.pointer none)],[],some .aW,8⟩
def t62:cD:=⟨.st,3,true,[.d (.str []),.d (.str []),.d (.lit false)],[(0,1),(1,1),(2,1)],some (.pr .str (.pr .str .bool)),40⟩
def t66:cD:=⟨.st,6,true,[.d (.int .i64 0),.d (.int .i64 0),.d (.int .i64 0),.d (.int .i64 0),.ee,.d (.str [])],[(0,1),(1,5)],some (.pr (.int .i64) (.pr (.int .i64) (.pr (.int .i64) (.pr (.int .i64) (.pr (.sl .u8) .str))))),72⟩
def t79:cD:=⟨.ptr 146,1,false,[.raw (.pointer none)],[],some .aW,8⟩
def t82:cD:=⟨.sl 4,1,false,[.ee],[],some (.sl .bool),24⟩
def t84:cD:=⟨.st,4,true,[.d (.str []),.d (.str []),.ee,.d (.lit false)],[(0,1),(1,1),(2,1),(3,1)],some (.pr .str (.pr .str (.pr (.sl .bool) .bool))),64⟩
def t97:cD:=⟨.mp 9 127,1,false,[.raw (.map none)],[],none,8⟩
def t99:cD:=⟨.st,3,true,[.d (.int .i64 0),.d (.int .i64 0),.raw (.map none)],[(0,1),(1,1),(2,1)],none,24⟩
def t100:cD:=⟨.sl 148,1,false,[.ee],[],some (.sl (.pr (.int .i64) (.int .i64))),24⟩
def t101:cD:=⟨.sl 229,1,false,[.ee],[],some (.sl (.pr .str (.sl (.pr (.int .i64) (.int .i64))))),24⟩
def t102:cD:=⟨.sl 9,1,false,[.ee],[],some (.sl .str),24⟩
def t104:cD:=⟨.st,5,true,[.d (.int .i64 0),.d (.int .i64 0),.ee,.ee,.ee],[(0,1),(1,1),(2,1),(3,1),(4,1)],some (.pr (.int .i64) (.pr (.int .i64) (.pr (.sl (.pr (.int .i64) (.int .i64))) (.pr (.sl (.pr .str (.sl (.pr (.int .i64) (.int .i64))))) (.sl .str))))),88⟩
def t114:cD:=⟨.st,3,true,[.d (.int .i64 0),.d (.int .i64 0),.d (.int .i64 0)],[(0,1),(1,1),(2,1)],some (.pr (.int .i64) (.pr (.int .i64) (.int .i64))),24⟩
def t124:cD:=⟨.st,7,true,[.d (.str []),.d (.str []),.d (.int .i64 0),.d (.int .i64 0),.ee,.ee,.ee],[(0,1),(1,1),(2,5)],some (.pr .str (.pr .str (.pr (.int .i64) (.pr (.int .i64) (.pr (.sl (.pr (.int .i64) (.int .i64))) (.pr (.sl (.pr .str (.sl (.pr (.int .i64) (.int .i64))))) (.sl .str))))))),120⟩
def t127:cD:=⟨.ptr 130,1,false,[.raw (.pointer none)],[],some .aW,8⟩
def t128:cD:=⟨.sl 3,1,false,[.ee],[],some (.sl (.int .i64)),24⟩
def t130:cD:=⟨.st,2,true,[.raw (.pointer none),.d (.str [])],[(0,1),(1,1)],some (.pr .aW .str),24⟩
def t137:cD:=⟨.st,4,true,[.raw (.pointer none),.d (.str []),.d (.str []),.d (.lit false)],[(0,1),(1,1),(2,1),(3,1)],some (.pr .aW (.pr .str (.pr .str .bool))),48⟩
def t141:cD:=⟨.other,1,false,[.raw .nilFunc],[],some .fn,8⟩
def t144:cD:=⟨.mp 3 3,1,false,[.raw (.map none)],[],none,8⟩
def t146:cD:=⟨.st,5,true,[.raw (.pointer none),.d (.str []),.d (.str []),.raw (.map none),.d (.lit false)],[(0,1),(1,1),(2,1),(3,1),(4,1)],none,56⟩
def t148:cD:=⟨.st,2,true,[.d (.int .i64 0),.d (.int .i64 0)],[(0,1),(1,1)],some (.pr (.int .i64) (.int .i64)),16⟩
def t151:cD:=⟨.other,1,false,[.raw .nilFunc],[],some .fn,8⟩
def t152:cD:=⟨.other,1,false,[.raw .nilFunc],[],some .fn,8⟩
def t156:cD:=⟨.ptr 197,1,false,[.raw (.pointer none)],[],some .aW,8⟩
def t159:cD:=⟨.ptr 199,1,false,[.raw (.pointer none)],[],some .aW,8⟩
def t162:cD:=⟨.mp 3 34,1,false,[.raw (.map none)],[],none,8⟩
def t163:cD:=⟨.sl 276,1,false,[.ee],[],some (.sl (.pr .str .aW)),24⟩
def t165:cD:=⟨.st,5,true,[.d (.int .i64 0),.raw (.pointer none),.raw (.pointer none),.raw (.map none),.ee],[(0,1),(1,1),(2,1),(3,1),(4,1)],none,56⟩
def t166:cD:=⟨.other,1,false,[.raw .nilFunc],[],some .fn,8⟩
def t168:cD:=⟨.other,1,false,[.raw .nilFunc],[],some .fn,8⟩
def t170:cD:=⟨.other,1,false,[.raw .nilFunc],[],some .fn,8⟩
def t176:cD:=⟨.sl 9,1,false,[.ee],[],some (.sl .str),24⟩
def t182:cD:=⟨.other,1,false,[.raw .nilFunc],[],some .fn,8⟩
def t183:cD:=⟨.other,1,false,[.raw .nilFunc],[],some .fn,8⟩
def t188:cD:=⟨.st,3,true,[.d (.int .i64 0),.d (.int .i64 0),.d (.lit false)],[(0,1),(1,1),(2,1)],some (.pr (.int .i64) (.pr (.int .i64) .bool)),24⟩
def t191:cD:=⟨.other,1,false,[.raw .nilFunc],[],some .fn,8⟩
def t192:cD:=⟨.other,1,false,[.raw .nilFunc],[],some .fn,8⟩
def t193:cD:=⟨.mp 3 192,1,false,[.raw (.map none)],[],none,8⟩
def t195:cD:=⟨.mp 3 217,1,false,[.raw (.map none)],[],none,8⟩
def t197:cD:=⟨.st,2,true,[.d (.int .i64 0),.raw (.map none)],[(0,1),(1,1)],none,16⟩
def t199:cD:=⟨.st,1,true,[.ee],[(0,1)],some (.sl (.int .i64)),24⟩
def t200:cD:=⟨.other,1,false,[.raw .nilFunc],[],some .fn,8⟩
def t203:cD:=⟨.st,4,true,[.d (.int .i64 0),.d (.int .i64 0),.d (.int .i64 0),.d (.int .i64 0)],[(0,1),(1,1),(2,1),(3,1)],some (.pr (.int .i64) (.pr (.int .i64) (.pr (.int .i64) (.int .i64)))),32⟩
def t204:cD:=⟨.other,1,false,[.raw .nilFunc],[],some .fn,8⟩
def t217:cD:=⟨.arr 16 188,48,true,[.d (.int .i64 0),.d (.int .i64 0),.d (.lit false),.d (.int .i64 0),.d (.int .i64 0),.d (.lit false),.d (.int .i64 0),.d (.int .i64 0),.d (.lit false),.d (.int .i64 0),.d (.int .i64 0),.d (.lit false),.d (.int .i64 0),.d (.int .i64 0),.d (.lit false),.d (.int .i64 0),.d (.int .i64 0),.d (.lit false),.d (.int .i64 0),.d (.int .i64 0),.d (.lit false),.d (.int .i64 0),.d (.int .i64 0),.d (.lit false),.d (.int .i64 0),.d (.int .i64 0),.d (.lit false),.d (.int .i64 0),.d (.int .i64 0),.d (.lit false),.d (.int .i64 0),.d (.int .i64 0),.d (.lit false),.d (.int .i64 0),.d (.int .i64 0),.d (.lit false),.d (.int .i64 0),.d (.int .i64 0),.d (.lit false),.d (.int .i64 0),.d (.int .i64 0),.d (.lit false),.d (.int .i64 0),.d (.int .i64 0),.d (.lit false),.d (.int .i64 0),.d (.int .i64 0),.d (.lit false)],[],some (.arr 16 (.pr (.int .i64) (.pr (.int .i64) .bool))),384⟩
def t229:cD:=⟨.st,2,true,[.d (.str []),.ee],[(0,1),(1,1)],some (.pr .str (.sl (.pr (.int .i64) (.int .i64)))),40⟩
def t236:cD:=⟨.int .u64,1,false,[.d (.int .u64 0)],[],some (.int .u64),8⟩
def t240:cD:=⟨.int .i64,1,false,[.d (.int .i64 0)],[],some (.int .i64),8⟩
def t248:cD:=⟨.int .u32,1,false,[.d (.int .u32 0)],[],some (.int .u32),4⟩
def t250:cD:=⟨.int .u64,1,false,[.d (.int .u64 0)],[],some (.int .u64),8⟩
def t252:cD:=⟨.other,1,false,[.raw .nilFunc],[],some .fn,8⟩
def t253:cD:=⟨.int .u64,1,false,[.d (.int .u64 0)],[],some (.int .u64),8⟩
def t257:cD:=⟨.ptr 3,1,false,[.raw (.pointer none)],[],some .aW,8⟩
def t259:cD:=⟨.ptr 253,1,false,[.raw (.pointer none)],[],some .aW,8⟩
def t276:cD:=⟨.st,2,true,[.d (.str []),.raw (.pointer none)],[(0,1),(1,1)],some (.pr .str .aW),24⟩
def types:c4:=(.node (.node (.node (.node (.node (.node (.node .leaf 3 t3 .leaf) 4 t4 .leaf) 5 t5 (.node .leaf 9 t9 .leaf)) 21 t21 (.node (.node (.node .leaf 22 t22 .leaf) 23 t23 .leaf) 24 t24 (.node .leaf 27 t27 .leaf))) 29 t29 (.node (.node (.node (.node .leaf 34 t34 .leaf) 36 t36 .leaf) 38 t38 (.node .leaf 46 t46 .leaf)) 49 t49 (.node (.node .leaf 54 t54 .leaf) 55 t55 (.node .leaf 58 t58 .leaf)))) 62 t62 (.node (.node (.node (.node (.node .leaf 66 t66 .leaf) 79 t79 .leaf) 82 t82 (.node .leaf 84 t84 .leaf)) 97 t97 (.node (.node .leaf 99 t99 .leaf) 100 t100 (.node .leaf 101 t101 .leaf))) 102 t102 (.node (.node (.node (.node .leaf 104 t104 .leaf) 114 t114 .leaf) 124 t124 (.node .leaf 127 t127 .leaf)) 128 t128 (.node (.node .leaf 130 t130 .leaf) 137 t137 (.node .leaf 141 t141 .leaf))))) 144 t144 (.node (.node (.node (.node (.node (.node .leaf 146 t146 .leaf) 148 t148 .leaf) 151 t151 (.node .leaf 152 t152 .leaf)) 156 t156 (.node (.node (.node .leaf 159 t159 .leaf) 162 t162 .leaf) 163 t163 (.node .leaf 165 t165 .leaf))) 166 t166 (.node (.node (.node (.node .leaf 168 t168 .leaf) 170 t170 .leaf) 176 t176 (.node .leaf 182 t182 .leaf)) 183 t183 (.node (.node .leaf 188 t188 .leaf) 191 t191 (.node .leaf 192 t192 .leaf)))) 193 t193 (.node (.node (.node (.node (.node .leaf 195 t195 .leaf) 197 t197 .leaf) 199 t199 (.node .leaf 200 t200 .leaf)) 203 t203 (.node (.node .leaf 204 t204 .leaf) 217 t217 (.node .leaf 229 t229 .leaf))) 236 t236 (.node (.node (.node (.node .leaf 240 t240 .leaf) 248 t248 .leaf) 250 t250 (.node .leaf 252 t252 .leaf)) 253 t253 (.node (.node .leaf 257 t257 .leaf) 259 t259 (.node .leaf 276 t276 .leaf))))))
end tY
set_option maxRecDepth 100000 in
theorem aj:dP Tryz.prog tY.types:=dP.of (by kernel_rfl)
theorem mixed:Tryz.prog.follows .mixedOrders=true:=by kernel_rfl
end Go.Proofs.YteoamepgonpdlaaGreat
namespace Go.Proofs.YteoamepgonpdlaaGreat
set_option linter.unusedVariables false
set_option linter.unusedSimpArgs false
open Go.ChangeShapes Go.WideShapes Go.ChangeAt Go.RowKit
section
variable {H:Type} {enc:TypeId×Value→H} {P:Program}
theorem SQ {f:Func} {s:ChangeSpec} {apart fresh handsOn again:Bool} {W mW:World} {args:Array Value} {v:Value} {ds gs:List (DataW H)} {before pa pv:List MemPlace}
  (dW:DataW.Whole enc P f.params.toList s.vars apart W args.toList ds gs before)
  (kW: ∀(b:Nat) (sp:Nat→Bool) (hd:Bool),DataW.TrodAll enc P mW b sp hd f.resultTypes.toList (v.resultList f.resultTypes.size) (s.fn H (ds++gs)).results [])
  (fL: ∀sp:Nat→Bool,(∀p∈before,sp p.block=true)→DataW.TrodAll enc P mW 0 sp true f.params.toList args.toList (s.fn H (ds++gs)).args pa)
  (AR: ∀sp:Nat→Bool,(∀p∈before,sp p.block=true)→DataW.TrodVars enc P mW sp s.vars (s.fn H (ds++gs)).vars pv)
  (nH:before=pa++pv) (ag:Below W.heap.size W mW)
  (bD: ∀(j:Nat) (t:TypeId) (r:Value),f.resultTypes[j]? =some t→(v.resultList f.resultTypes.size)[j]? =some r→Value.okWide P mW .any 0 t r):
  s.post enc P f apart fresh handsOn again W args v mW:=by
 have bH: ∀p∈before,p.block < W.heap.size:=fun p hp=>dW.lt p hp
 have hold: ∀p∈before,(fun b=>decide (b < W.heap.size)) p.block=true:=fun p hp=>by simpa using bH p hp
 refine⟨ds,gs,before,[],pa,pv,dW,kW _ _ _,fL _ hold,AR _ hold,World.keptBut_mono (fun p hp=>⟨hp,?_⟩) (ag.frame (· ∈before)),fun _=>?_⟩
 ·rw[nH,List.mem_append] at hp
  exact Or.inr hp
 ·obtain⟨_,_,_,_,_,aS,hn⟩:=dW
  refine⟨bD,_,_,([]++pa)++pv,⟨[]++pa,pv,trodAll_append (fL _ (fun _ _=>rfl)) (kW _ _ _),AR _ (fun _ _=>rfl),rfl,?_,?_⟩,?_⟩
  ·intro b off hp
   have dU:MemPlace.cell b off∈before:=by rw[nH];simpa using hp
   rw[ag.frozen (bH _ dU)]
   exact aS b off dU
  ·intro ha
   have:=hn ha
   rw[nH] at this
   simpa using this
  ·intro p hp _
   rw[nH]
   simpa using hp
end
def LK:(u:U)→aJ u→aN
 | .pr u v,x=>.c (.agg (fE (.pr u v) x 0 (aM (.pr u v))))
 | .arr n u,x=>.c (.agg (fE (.arr n u) x 0 (aM (.arr n u))))
 | .int k,x=>.c (.one (.d (eW (.int k) x 0)))
 | .u8,x=>.c (.one (.d (eW .u8 x 0)))
 | .bool,x=>.c (.one (.d (eW .bool x 0)))
 | .str,x=>.c (.one (.d (eW .str x 0)))
 | .aW,x=>.c (.one (.d (eW .aW x 0)))
 | .dg,x=>.c (.one (.d (eW .dg x 0)))
 | .fn,x=>.c (.one (.d (eW .fn x 0)))
 | .sl u,x=>.c (.one (.d (eW (.sl u) x 0)))
def tZ (P:Program) (t:TypeId):Bool:=match P.underlying t with
 |some (.struct _)=>false
 |some (.array _ _)=>false
 |some _=>true
 |none=>false
def Dh (P:Program) (u:U) (t:TypeId):Bool:=pZ P 20 u t&&(mQ u == tZ P t)&&Nat.beq (P.cellsOf t) (aM u)&&P.readableRec t&&Nat.blt t P.types.size
section
variable {H:Type} {enc:TypeId×Value→H} {W:World} {P:Program} {ρ:Nat→bn} {I:Nat→Prop}
theorem LL {u:U} {x:aJ u} {cs:List Value} (hd:cg I W u x (fun j=>cs[j]?)): ∀(n o:Nat),o+n≤aM u→o+n≤cs.length→bZ ρ I W (fE u x o n) ((cs.drop o).take n)
 |0,o,_,_=>by simp[fE,bZ]
 |n+1,o,h,aB=>by
  obtain⟨v,hv,tT⟩:=cg.cell u x _ o hd (by omega)
  refine⟨v,(cs.drop (o+1)).take n,?_,tT,LL hd n (o+1) (by omega) (by omega)⟩
  have:=(List.getElem?_eq_some_iff.1 hv).2
  rw[List.drop_eq_getElem_cons (by omega:o < cs.length),List.take_succ_cons,this]
theorem SR {t:TypeId} {v:Value} {base:Nat} (aa:tZ P t=true) (h:Value.okWide P W .any base t v) {fuel:Nat} {sp:Nat→Bool} {u:U} {n:Nat} {x:DataW H×List MemPlace} (hu:pZ P n u t=true) (af:mQ u=true):v.cells.toList=[v]:=by
 cases n with
 |zero=>simp[pZ] at hu
 |succ n=>
  unfold pZ at hu
  split at hu
  case h_1 k k' cl=>obtain⟨n,rfl⟩:=okWide_int cl h;rfl
  case h_2 k cl=>obtain⟨n,rfl⟩:=okWide_int cl h;rfl
  case h_3 cl=>obtain⟨n,rfl⟩:=okWide_bool cl h;rfl
  case h_4 cl=>obtain⟨n,rfl⟩:=okWide_string cl h;rfl
  case h_5 e v cl=>obtain⟨a,b,c,rfl⟩:=okWide_slice cl h;rfl
  case h_6=>simp[mQ] at af
  case h_7 fs u cl=>simp[tZ,cl] at aa
  case h_8=>cases hu
theorem SS {t:TypeId} {v:Value} {base:Nat} (aa:tZ P t=false) (h:Value.okWide P W .any base t v) {n:Nat} {u:U} (hu:pZ P n u t=true): ∃cs,v= .agg cs∧cs.size=P.cellsOf t:=by
 cases n with
 |zero=>simp[pZ] at hu
 |succ n=>
  unfold pZ at hu
  unfold Value.okWide at h
  split at hu
  case h_1 k k' cl=>simp[tZ,cl] at aa
  case h_2 k cl=>simp[tZ,cl] at aa
  case h_3 cl=>simp[tZ,cl] at aa
  case h_4 cl=>simp[tZ,cl] at aa
  case h_5 e v cl=>simp[tZ,cl] at aa
  case h_6 k e k' v cl=>rw[cl] at h;obtain⟨cs,aa,af,_⟩:=h;exact⟨cs,aa,af⟩
  case h_7 fs u cl=>rw[cl] at h;obtain⟨cs,aa,af,_⟩:=h;exact⟨cs,aa,af⟩
  case h_8=>cases hu
theorem SU {u:U} {t:TypeId} {v:Value} {d:DataW H} {ps:List MemPlace} {base:Nat} {sp:Nat→Bool} (h:Dh P u t=true) (bD:Value.okWide P W .any base t v) (cu:DataW.Trod enc P W 0 sp true t v d ps):
  ∃a:aJ u,cj ρ (fun b=>b < W.heap.size) W (LK u a) v∧fM u a≤Rows.uptoBulk d∧sH u a:=by
 simp only[Dh,Bool.and_eq_true,Nat.beq_eq,beq_iff_eq] at h
 obtain⟨⟨⟨⟨aa,af⟩,aA⟩,_⟩,_⟩:=h
 obtain⟨n,hn⟩:=cu
 obtain⟨a,cK,c5,fU⟩:=Df _ _ _ aa _ _ _ hn
 refine⟨a,?_,c5,fU⟩
 cases av:mQ u with
 |true=>
  rw[SR (x:=(d,ps)) (fuel:=n) (sp:=sp) (by rw[←af,av]) bD aa av] at cK
  obtain⟨v',ai,aq⟩:=cg.cell u a _ 0 cK (by rcases u with _ |_ |_ |_ |_ |_ |_ <;>simp[aM,mQ] at*)
  simp only[List.getElem?_cons_zero,Option.some.injEq] at ai
  subst ai
  cases u <;>first |exact aq |(simp[mQ] at av)
 |false=>
  obtain⟨cs,rfl,ek⟩:=SS (by rw[←af,av]) bD aa
  have aB:cs.toList.length=aM u:=by rw[Array.length_toList];omega
  have:=LL (ρ:=ρ) cK (aM u) 0 (by omega) (by simpa[Value.cells] using(show 0+aM u≤cs.toList.length by omega))
  rw[List.drop_zero,List.take_of_length_le (by simp only[Value.cells];omega)] at this
  cases u <;>first |exact⟨_,rfl,this⟩ |(simp[mQ] at av)
def yT:List U→Type
 | []=>Unit
 |u::us=>aJ u×yT us
def u9:(us:List U)→yT us→List aN
 | [],_=>[]
 |u::us,x=>LK u x.1::u9 us x.2
noncomputable def Di:(us:List U)→yT us→Nat
 | [],_=>0
 |u::us,x=>fM u x.1+Di us x.2
def Gp:(us:List U)→yT us→Prop
 | [],_=>True
 |u::us,x=>sH u x.1∧Gp us x.2
def sI (P:Program):List U→List TypeId→Bool
 | [],[]=>true
 |u::us,t::ts=>Dh P u t&&sI P us ts
 |_,_=>false
theorem LM {base:Nat} {sp:Nat→Bool}: ∀(us:List U) (ts:List TypeId) (vs:List Value) (ds:List (DataW H)) (ps:List MemPlace),sI P us ts=true→(∀(j:Nat) t v,ts[j]? =some t→vs[j]? =some v→Value.okWide P W .any base t v)→
  DataW.TrodAll enc P W 0 sp true ts vs ds ps→ ∃a:yT us,vs.length=(u9 us a).length∧(∀(i:Nat) (s:aN) (x:Value),(u9 us a)[i]? =some s→vs[i]? =some x→cj ρ (fun b=>b < W.heap.size) W s x)∧Di us a≤Rows.uptoBulkAll ds∧Gp us a
 | [],[],vs,ds,ps,_,_,cu=>by
  obtain⟨rfl,rfl,rfl⟩:=trodAll_nil cu
  exact⟨(),rfl,fun i s x h=>by simp[u9] at h,Nat.zero_le _,trivial⟩
 | [],_::_,_,_,_,h,_,_=>by simp[sI] at h
 |_::_,[],_,_,_,h,_,_=>by simp[sI] at h
 |u::us,t::ts,vs,ds,ps,h,bD,cu=>by
  simp only[sI,Bool.and_eq_true] at h
  obtain⟨v,vs,d,ds,p,q,rfl,rfl,rfl,aC,hr⟩:=trodAll_cons cu
  obtain⟨a,ct,cB,a3⟩:=SU (ρ:=ρ) h.1 (bD 0 t v rfl rfl) aC
  obtain⟨b,bQ,cn,eT,Gq⟩:=LM us ts vs ds q h.2 (fun j t v aa af=>bD (j+1) t v aa af) hr
  refine⟨(a,b),by simp[u9,bQ],fun i s x aa af=>?_,by simp only[Di,Rows.uptoBulkAll];omega,a3,Gq⟩
  match i with
  |0=>simp only[u9,List.getElem?_cons_zero,Option.some.injEq] at aa af;subst aa af;exact ct
  |i+1=>exact cn i s x (by simpa[u9] using aa) (by simpa using af)
theorem LN (laid:laidOutB P=true) {mW:World} {LO:Nat→Bool}: ∀(us:List U) (ts:List TypeId) (vs:List Value) (ds:List (DataW H)) (ps:List MemPlace),sI P us ts=true→
  DataW.TrodAll enc P W 0 (fun _=>true) true ts vs ds ps→Below W.heap.size W mW→(∀x∈ps,x.block < W.heap.size)→(∀x∈ps,LO x.block=true)→DataW.TrodAll enc P mW 0 LO true ts vs ds ps
 | [],[],vs,ds,ps,_,cu,_,_,_=>by
  obtain⟨rfl,rfl,rfl⟩:=trodAll_nil cu
  exact trodAll_mk0
 | [],_::_,_,_,_,h,_,_,_,_=>by simp[sI] at h
 |_::_,[],_,_,_,h,_,_,_,_=>by simp[sI] at h
 |u::us,t::ts,vs,ds,ps,h,cu,ag,bH,ua=>by
  simp only[sI,Bool.and_eq_true] at h
  obtain⟨v,vs,d,ds,p,q,rfl,rfl,rfl,aC,hr⟩:=trodAll_cons cu
  have aa:=h.1
  simp only[Dh,Bool.and_eq_true,Nat.blt_eq] at aa
  exact trodAll_cons_mk (WideElems.Trod_stays laid aa.1.2 aa.2 aC (fun x hx=>ag.same (bH x (by simp[hx]))) (fun x hx=>ua x (by simp[hx]))) (LN laid us ts vs ds q h.2 hr ag (fun x hx=>bH x (by simp[hx])) (fun x hx=>ua x (by simp[hx])))
theorem Fn.calls {f:FuncId} {args:List aN} (hF:Fn P f args [] [] (g9 true) []) (b6:Array Value) (aB:b6.toList.length=args.length)
  (hd: ∀(i:Nat) (s:aN) (x:Value),args[i]? =some s→b6.toList[i]? =some x→cj ρ (fun b=>b < W.heap.size) W s x):Calls P f b6 W fun e mW=>e= .returned (.bool true)∧Below W.heap.size W mW:=by
 have h:=hF.2 ρ (fun _ _=>False) (fun b=>b < W.heap.size) W b6.toList (fun b h=>h) (fun c ch hc=>by simp[ax] at hc) (fun c ch hc=>by simp[ax] at hc) (fun c bY ch bg b hc=>by simp[ax] at hc) aB hd
 rw[Array.toArray_toList] at h
 refine h.mono ?_
 rintro e mW ⟨x,ρ',F',rfl,cv,-,I',-,-,-,-,-,hx⟩
 rw[show x= .bool true from hx]
 exact⟨rfl,cv.below (Nat.le_refl _) (by rintro i _ ⟨c,ch,hc,_⟩;simp[ax] at hc)⟩
end
theorem SV:ownKnob Tryz.prog.godebug=none:=by kernel_rfl
theorem SW:laidOutB Tryz.prog=true:=by kernel_rfl
set_option maxRecDepth 100000 in
theorem SX {H:Type} {enc:TypeId×Value→H} {W:World} {args:Array Value} {ds gs:List (DataW H)} {before:List MemPlace} {base:Nat} (f:FuncId) (fn:Func) (s:ChangeSpec) (us:List U) (n:Nat)
  (kW:fn.resultTypes= #[4]) (AR:s.vars=[]) (LP:sI Tryz.prog us fn.params.toList=true)
  (nJ: ∀ds:List (DataW H),ds.length=fn.params.toList.length→(s.fn H ds).results=[.lit (.bool true)]∧(s.fn H ds).vars=[]∧(s.fn H ds).args=ds)
  (hval: ∀(j:Nat) t v,fn.params[j]? =some t→args[j]? =some v→Value.okWide Tryz.prog W .any base t v)
  (dW:DataW.Whole enc Tryz.prog fn.params.toList s.vars false W args.toList ds gs before) (au:Rows.uptoBulkAll (ds++gs)≤n)
  (hF: ∀a:yT us,Di us a≤n→Gp us a→Fn Tryz.prog f (u9 us a) [] [] (g9 true) []):
  Calls Tryz.prog f args W fun e mW=> ∃v,e= .returned v∧s.post enc Tryz.prog fn false true false false W args v mW:=by
 have LQ:=dW
 have bH:=dW.lt
 obtain⟨p,q,hA,LR,rfl,abd,dD⟩:=dW
 rw[AR] at LR
 obtain⟨rfl,rfl⟩:=trodVars_none LR
 simp only[List.append_nil] at LQ au bH
 obtain⟨a,ct,cB,a3,a4⟩:=LM (ρ:=fun _=>⟨0,none,0,0⟩) us fn.params.toList args.toList ds p LP (fun j t v aa af=>hval j t v (by simpa using aa) (by simpa using af)) hA
 have hlen:ds.length=fn.params.toList.length:=by
  have: ∀(ts:List TypeId) (vs:List Value) (ds:List (DataW H)) (ps:List MemPlace),DataW.TrodAll enc Tryz.prog W 0 (fun _=>true) true ts vs ds ps→ds.length=ts.length:=fun ts=>by
   induction ts with
   |nil=>intro vs ds ps h;obtain⟨_,rfl,_⟩:=trodAll_nil h;rfl
   |cons t ts aY=>intro vs ds ps h;obtain⟨v,vs,d,ds,p,q,rfl,rfl,rfl,aC,hr⟩:=trodAll_cons h;simp[aY _ _ _ hr]
  exact this _ _ _ _ hA
 obtain⟨r1,r2,gv⟩:=nJ ds hlen
 refine((hF a (by omega) a4).calls args ct cB).mono fun e mW ⟨he,ag⟩=>?_
 subst he
 refine⟨_,rfl,SQ (pa:=p) (pv:=[]) LQ ?_ ?_ ?_ (by simp) ag ?_⟩
 ·intro b sp hd
  rw[List.append_nil,r1,kW]
  exact trodAll_cons_mk (shut_bool Tryz.underlying4 _) trodAll_mk0
 ·intro sp ua
  rw[List.append_nil,gv]
  exact LN SW us _ _ _ _ LP hA ag (fun x hx=>bH x (by simpa using hx)) (fun x hx=>ua x (by simpa using hx))
 ·intro sp ua
  rw[List.append_nil,r2,AR]
  rfl
 ·exact Go.RowKit.ok_one kW rfl (okWide_bool_mk Tryz.underlying4 _)
end Go.Proofs.YteoamepgonpdlaaGreat
namespace Go.Proofs.YteoamepgonpdlaaGreat
set_option maxRecDepth 100000
open Go.ChangeShapes Go.WideShapes Go.ChangeAt Go.RowKit
theorem hU {a b:Bool} (h:a=true) (k:b=true):(a&&b)=true:=by rw[h,k];rfl
def Gr:OpenClaim:={program:= "",sum:= "",func:= "",spec:= "" }
theorem SY:laidOutB Tryz.prog=true:=by kernel_rfl
theorem SZ:mapsRowed Tryz.prog=true:=by kernel_rfl
theorem S0:(Gr.plainKeys == Tryz.prog.plainKeys)=true:=by kernel_rfl
theorem S1:Tryz.prog.mayEnter=true:=by kernel_rfl
theorem S2:(Gr.lifted == Tryz.prog.liftsFinal)=true:=by kernel_rfl
theorem S3:(Tryz.prog.make == some Gr.make)=true:=by kernel_rfl
end Go.Proofs.YteoamepgonpdlaaGreat
namespace Go.Proofs
open Go.Shelf
def Tryz.LS:Go.Shelf.Ren:=⟨fun |7=>104 |10=>130 |n=>n,fun |23=>97 |26=>9 |3=>127 |28=>183 |0=>0 |27=>182 |33=>166 |4=>4 |n=>n,fun |n=>n⟩
theorem Tryz.S4:Go.Proofs.SlLaysZ.n7 Tryz.prog Tryz.LS:={
 mixed:=by kernel_rfl
 f7:=⟨Tryz.f104.name,by decide,Tryz.func104.trans (congrArg some (by kernel_rfl))⟩
 f10:=⟨Tryz.f130.name,by decide,Tryz.func130.trans (congrArg some (by kernel_rfl))⟩
 t0:=Tryz.underlying0
 a0:=Tryz.isAgg0
 z0:=Tryz.sizeOf0
 v0:=Tryz.zeroValue0
 t4:=Tryz.underlying4
 a4:=Tryz.isAgg4
 z4:=Tryz.sizeOf4
 v4:=Tryz.zeroValue4
 t23:=Tryz.underlying97
 a23:=Tryz.isAgg97
 z23:=Tryz.sizeOf97
 v23:=Tryz.zeroValue97
 t26:=Tryz.underlying9
 a26:=Tryz.isAgg9
 z26:=Tryz.sizeOf9
 v26:=Tryz.zeroValue9
 t27:=Tryz.underlying182
 a27:=Tryz.isAgg182
 z27:=Tryz.sizeOf182
 v27:=Tryz.zeroValue182
 t28:=Tryz.underlying183
 a28:=Tryz.isAgg183
 z28:=Tryz.sizeOf183
 v28:=Tryz.zeroValue183
 t33:=Tryz.underlying166
 a33:=Tryz.isAgg166
 z33:=Tryz.sizeOf166
 v33:=Tryz.zeroValue166}
def Tryz.LU:Go.Shelf.Ren:=⟨fun |6=>103 |8=>128 |9=>129 |11=>147 |13=>149 |12=>148 |23=>163 |24=>164 |14=>154 |15=>155 |16=>156 |17=>157 |18=>158 |19=>159 |20=>160 |21=>161 |22=>162 |25=>167 |26=>168 |27=>169 |28=>170 |29=>171 |30=>172 |31=>174 |n=>n,fun |26=>9 |28=>183 |24=>102 |0=>0 |3=>3 |37=>236 |48=>248 |50=>250 |4=>4 |40=>241 |39=>240 |45=>71 |5=>5 |9=>9 |51=>253 |55=>257 |57=>259 |58=>142 |33=>166 |n=>n,fun |n=>n⟩
theorem Tryz.S5:Go.Proofs.SlLaysZ.n6 Tryz.prog Tryz.LU:={
 mixed:=by kernel_rfl
 f6:=⟨Tryz.f103.name,by decide,Tryz.func103.trans (congrArg some (by kernel_rfl))⟩
 f8:=⟨Tryz.f128.name,by decide,Tryz.func128.trans (congrArg some (by kernel_rfl))⟩
 f11:=⟨Tryz.f147.name,by decide,Tryz.func147.trans (congrArg some (by kernel_rfl))⟩
 t0:=Tryz.underlying0
 a0:=Tryz.isAgg0
 z0:=Tryz.sizeOf0
 v0:=Tryz.zeroValue0
 t24:=Tryz.underlying102
 a24:=Tryz.isAgg102
 z24:=Tryz.sizeOf102
 v24:=Tryz.zeroValue102
 t26:=Tryz.underlying9
 a26:=Tryz.isAgg9
 z26:=Tryz.sizeOf9
 v26:=Tryz.zeroValue9
 t28:=Tryz.underlying183
 a28:=Tryz.isAgg183
 z28:=Tryz.sizeOf183
 v28:=Tryz.zeroValue183
 i26:=by kernel_rfl}
def Tryz.S6:Go.Shelf.Ren:=⟨fun |6=>129 |8=>149 |9=>148 |19=>163 |20=>164 |21=>154 |22=>155 |23=>156 |24=>157 |25=>158 |26=>159 |27=>160 |28=>161 |29=>162 |36=>167 |31=>168 |32=>169 |37=>170 |38=>171 |39=>172 |41=>174 |n=>n,fun |27=>102 |29=>9 |3=>3 |32=>236 |26=>102 |0=>0 |44=>248 |46=>250 |4=>4 |36=>241 |35=>240 |41=>71 |5=>5 |9=>9 |53=>253 |57=>257 |63=>259 |64=>142 |n=>n,fun |n=>n⟩
theorem Tryz.LV:Go.Proofs.SlLaysM.n6 Tryz.prog Tryz.S6:={
 mixed:=by kernel_rfl
 f6:=⟨Tryz.f129.name,by decide,Tryz.func129.trans (congrArg some (by kernel_rfl))⟩
 f8:=Tryz.func149.trans (congrArg some (by kernel_rfl))
 f9:=⟨Tryz.f148.name,by decide,Tryz.func148.trans (congrArg some (by kernel_rfl))⟩
 f19:=Tryz.func163.trans (congrArg some (by kernel_rfl))
 f20:=Tryz.func164.trans (congrArg some (by kernel_rfl))
 f21:=⟨Tryz.f154.name,by decide,Tryz.func154.trans (congrArg some (by kernel_rfl))⟩
 f22:=⟨Tryz.f155.name,by decide,Tryz.func155.trans (congrArg some (by kernel_rfl))⟩
 f23:=⟨Tryz.f156.name,by decide,Tryz.func156.trans (congrArg some (by kernel_rfl))⟩
 f24:=⟨Tryz.f157.name,by decide,Tryz.func157.trans (congrArg some (by kernel_rfl))⟩
 f25:=⟨Tryz.f158.name,by decide,Tryz.func158.trans (congrArg some (by kernel_rfl))⟩
 f26:=⟨Tryz.f159.name,by decide,Tryz.func159.trans (congrArg some (by kernel_rfl))⟩
 f27:=⟨Tryz.f160.name,by decide,Tryz.func160.trans (congrArg some (by kernel_rfl))⟩
 f28:=⟨Tryz.f161.name,by decide,Tryz.func161.trans (congrArg some (by kernel_rfl))⟩
 f29:=⟨Tryz.f162.name,by decide,Tryz.func162.trans (congrArg some (by kernel_rfl))⟩
 f31:=Tryz.func168.trans (congrArg some (by kernel_rfl))
 f32:=Tryz.func169.trans (congrArg some (by kernel_rfl))
 f36:=⟨Tryz.f167.name,by decide,Tryz.func167.trans (congrArg some (by kernel_rfl))⟩
 f37:=⟨Tryz.f170.name,by decide,Tryz.func170.trans (congrArg some (by kernel_rfl))⟩
 f38:=⟨Tryz.f171.name,by decide,Tryz.func171.trans (congrArg some (by kernel_rfl))⟩
 f39:=⟨Tryz.f172.name,by decide,Tryz.func172.trans (congrArg some (by kernel_rfl))⟩
 f41:=⟨Tryz.f174.name,by decide,Tryz.func174.trans (congrArg some (by kernel_rfl))⟩
 t0:=Tryz.underlying0
 a0:=Tryz.isAgg0
 z0:=Tryz.sizeOf0
 v0:=Tryz.zeroValue0
 t3:=Tryz.underlying3
 a3:=Tryz.isAgg3
 z3:=Tryz.sizeOf3
 v3:=Tryz.zeroValue3
 t4:=Tryz.underlying4
 a4:=Tryz.isAgg4
 z4:=Tryz.sizeOf4
 v4:=Tryz.zeroValue4
 t5:=Tryz.underlying5
 a5:=Tryz.isAgg5
 z5:=Tryz.sizeOf5
 v5:=Tryz.zeroValue5
 t9:=Tryz.underlying9
 a9:=Tryz.isAgg9
 z9:=Tryz.sizeOf9
 v9:=Tryz.zeroValue9
 t26:=Tryz.underlying102
 a26:=Tryz.isAgg102
 z26:=Tryz.sizeOf102
 v26:=Tryz.zeroValue102
 t27:=Tryz.underlying102
 a27:=Tryz.isAgg102
 z27:=Tryz.sizeOf102
 v27:=Tryz.zeroValue102
 t29:=Tryz.underlying9
 a29:=Tryz.isAgg9
 z29:=Tryz.sizeOf9
 v29:=Tryz.zeroValue9
 t32:=Tryz.underlying236
 a32:=Tryz.isAgg236
 z32:=Tryz.sizeOf236
 v32:=Tryz.zeroValue236
 t35:=Tryz.underlying240
 a35:=Tryz.isAgg240
 z35:=Tryz.sizeOf240
 v35:=Tryz.zeroValue240
 t36:=Tryz.underlying241
 a36:=Tryz.isAgg241
 z36:=Tryz.sizeOf241
 v36:=Tryz.zeroValue241
 t41:=Tryz.underlying71
 a41:=Tryz.isAgg71
 z41:=Tryz.sizeOf71
 v41:=Tryz.zeroValue71
 t44:=Tryz.underlying248
 a44:=Tryz.isAgg248
 z44:=Tryz.sizeOf248
 v44:=Tryz.zeroValue248
 t46:=Tryz.underlying250
 a46:=Tryz.isAgg250
 z46:=Tryz.sizeOf250
 v46:=Tryz.zeroValue250
 t53:=Tryz.underlying253
 a53:=Tryz.isAgg253
 z53:=Tryz.sizeOf253
 v53:=Tryz.zeroValue253
 t57:=Tryz.underlying257
 a57:=Tryz.isAgg257
 z57:=Tryz.sizeOf257
 v57:=Tryz.zeroValue257
 t63:=Tryz.underlying259
 a63:=Tryz.isAgg259
 z63:=Tryz.sizeOf259
 v63:=Tryz.zeroValue259
 t64:=Tryz.underlying142
 a64:=Tryz.isAgg142
 z64:=Tryz.sizeOf142
 v64:=Tryz.zeroValue142}
end Go.Proofs
namespace Go.Proofs.YteoamepgonpdlaaGreat
set_option linter.unusedVariables false
set_option linter.unusedSimpArgs false
open Go.RowKit
def hM (P:Program) (f:FuncId) (args:List aN) (aP:aG) (bu:List Nat) {X:Type} (res:X→aN) (aZ:X→aG):Prop:=
 l6 P f=true∧ ∀(ρ:Nat→bn) (F:Nat→Nat→Prop) (I:Nat→Prop) (w:World) (b6:List Value),
  (∀b,I b→b < w.heap.size)→(∀c ch,ax aP c=some ch→Holds ρ I (F c) w (ρ c) ch)→(∀c ch,ax aP c=some ch→ ∀b,F c b→b < w.heap.size∧ ¬I b)→
  (∀c bY ch bg b,ax aP c=some ch→ax aP bY=some bg→c≠bY→F c b→ ¬F bY b)→
  b6.length=args.length→(∀(i:Nat) (v:aN) (x:Value),args[i]? =some v→b6[i]? =some x→cj ρ I w v x)→
  Calls P f b6.toArray w fun e w'=> ∃(g:X) (x:Value) (ρ':Nat→bn) (F':Nat→Nat→Prop),e= .returned x∧Fr (fun b=> ∃c ch,ax aP c=some ch∧F c b) w w'∧(∀c,c∉bu→ρ' c=ρ c)∧
   ∃I':Nat→Prop,Ext I w I' w'∧(∀b,I' b→b < w'.heap.size∧(I b∨(∃c ch,ax aP c=some ch∧F c b)∨w.heap.size≤b))∧
   (∀c ch,ax (aZ g) c=some ch→Holds ρ' I' (F' c) w' (ρ' c) ch)∧
   (∀c ch,ax (aZ g) c=some ch→ ∀b,F' c b→b < w'.heap.size∧ ¬I' b∧((∃cy cr,ax aP cy=some cr∧F cy b)∨w.heap.size≤b))∧
   (∀c bY ch bg b,ax (aZ g) c=some ch→ax (aZ g) bY=some bg→c≠bY→F' c b→ ¬F' bY b)∧cj ρ' I' w' (res g) x
theorem Fn.x {P:Program} {f:FuncId} {args:List aN} {aP:aG} {bu:List Nat} {res:aN} {aZ:aG} (h:Fn P f args aP bu res aZ):hM P f args aP bu (fun _:Unit=>res) (fun _=>aZ):=
 ⟨h.1,fun ρ F I w b6 ct cB a3 a4 a5 gT=>(h.2 ρ F I w b6 ct cB a3 a4 a5 gT).mono fun e w' q=>⟨(),q⟩⟩
section
variable {P:Program} {tt:c4} {N:Nat} {ids:List Nat} {o:Oper} {K:aQ} {B:aG}
theorem Sat.back {aP:aG} {bu:List Nat} {r:aN} {aZ:aG} (iN:nA B aP) (Gs:q5 ids K B bu=true) (nK:oI aP bu aZ=true) {C:Ctx} {a:Act} {w w':World} {ρ ρ':Nat→bn} {F F':Nat→Nat→Prop} {I':Nat→Prop} {x:Value} {dst:Option Nat}
  (hn:a.tmps.size=N) (hd:a.defers=C.ds.map wq) (az:Mem ids C B ρ F w) (hS:ei K ρ (bS C B F w) a w) (bH: ∀d,dst=some d→d < N)
  (cv:Fr (fun b=> ∃c ch,ax aP c=some ch∧F c b) w w') (di: ∀c,c∉bu→ρ' c=ρ c) (iu: ∀b,I' b→b < w'.heap.size∧(bS C B F w b∨(∃c ch,ax aP c=some ch∧F c b)∨w.heap.size≤b))
  (eo: ∀c ch,ax aZ c=some ch→Holds ρ' I' (F' c) w' (ρ' c) ch) (aT: ∀c ch,ax aZ c=some ch→ ∀b,F' c b→b < w'.heap.size∧ ¬I' b∧((∃cy cr,ax aP cy=some cr∧F cy b)∨w.heap.size≤b))
  (jA: ∀c bY ch bg b,ax aZ c=some ch→ax aZ bY=some bg→c≠bY→F' c b→ ¬F' bY b) (ep:cj ρ' I' w' r x):Sat N ids C (lZ dst r K) (e5 (jy aP aZ) B) (a.put dst x) w':=by
 have eN: ∀{c ch},ax aP c=some ch→ax B c=some ch:=fun {c ch} hc=>kq iN hc
 have ou: ∀c∈bu,(∀s,(look K s).has c=false)∧ax B c=none∧(∀d ch,ax B d=some ch→ch.has c=false)∧c∉ids:=fun c hc=>kT (CU Gs c hc)
 have Aw: ∀c,ax (e5 (jy aP aZ) B) c=(match ax aZ c with |some ch=>some ch |none=>if c∈cS aP then none else ax B c):=CT aP aP bu aZ B nK
 have oP: ∀c ch,ax (e5 (jy aP aZ) B) c=some ch→ax aZ c=some ch∨(ax aZ c=none∧c∉cS aP∧ax B c=some ch):=fun c ch hc=>by
  rw[Aw] at hc
  cases ag:ax aZ c with
  |some bg=>rw[ag] at hc;exact .inl hc
  |none=>
   rw[ag] at hc
   simp only at hc
   split at hc
   ·cases hc
   ·rename_i au;exact .inr ⟨rfl,au,hc⟩
 let cY:Nat→Nat→Prop:=fun c=>if c∈cS aZ then F' c else F c
 have kV: ∀c ch,ax aZ c=some ch→cY c=F' c:=fun c ch hc=>if_pos (gi.2 ⟨ch,hc⟩)
 have Ax: ∀c,ax aZ c=none→cY c=F c:=fun c hc=>if_neg (fun au=>by
  obtain⟨ch,h⟩:=gi.1 au
  rw[hc] at h;cases h)
 have j8: ∀c ch,ax aZ c=some ch→c∈cS aP∨c∈bu:=fun c ch hc=>FZ nK (gi.2 ⟨ch,hc⟩)
 have tS: ∀c ch,ax (e5 (jy aP aZ) B) c=some ch→(c∈cS aP∨c∈bu)→ax aZ c=some ch:=fun c ch hc bT=>by
  rcases oP c ch hc with h |⟨aa,af,aA⟩
  ·exact h
  ·rcases bT with h |h
   ·exact absurd h af
   ·rw[(ou c h).2.1] at aA;cases aA
 have ov:Ext I' w' (bS C (e5 (jy aP aZ) B) cY w') w':=fun b ag=>by
  obtain⟨ai,aq⟩:=iu b ag
  refine⟨⟨ai,?_,fun c ch hc hF=>?_⟩,rfl⟩
  ·rcases aq with aq |⟨c,ch,aq,bk⟩ |aq
   ·exact aq.2.1
   ·exact .inr ((az.own c ch (eN aq) b bk).2)
   ·exact .inr (.inr (az.fresh aq))
  ·rcases oP c ch hc with h |⟨aa,af,aA⟩
   ·rw[kV c ch h] at hF
    exact(aT c ch h b hF).2.1 ag
   ·rw[Ax c aa] at hF
    rcases aq with aq |⟨d,bg,aq,bk⟩ |aq
    ·exact aq.2.2 c ch aA hF
    ·exact az.e4 d c bg ch b (eN aq) aA (fun e=>af (e▸gi.2 ⟨bg,aq⟩)) bk hF
    ·have:=(az.own c ch aA b hF).1;omega
 obtain⟨bT,bA⟩:=az.step (B':=e5 (jy aP aZ) B) (ρ':=ρ') (F':=cY) (w':=w') (fun c=>c∈cS aP∨c∈bu) (fun c=>c∈bu)
  (cv.mono fun b _ ⟨c,ch,aa,af⟩=>⟨c,ch,eN aa,.inl (gi.2 ⟨ch,aa⟩),af⟩)
  (fun c ch hc hn=>by
   rcases oP c ch hc with h |⟨_,_,aA⟩
   ·exact absurd (j8 c ch h) hn
   ·exact aA)
  di
  (fun c hn=>by
   cases ag:ax aZ c with
   |none=>exact Ax c ag
   |some ch=>exact absurd (j8 c ch ag) hn)
  (fun c hc hn=>(ou c hn).2.2.2 hc) (fun c h=>.inr h)
  (fun c ch hc _ d hd hn=>by rw[(ou d hn).2.2.1 c ch hc] at hd;cases hd)
  (fun c ch hc bT _=>by
   have ag:=tS c ch hc bT
   rw[kV c ch ag]
   exact Holds.cA ov (fun _ _=>rfl) (Nat.le_refl _) ch (fun _ _=>rfl) (eo c ch ag))
  (fun c ch hc bT b ag=>by
   have wN:=tS c ch hc bT
   rw[kV c ch wN] at ag
   obtain⟨ai,_,bk⟩:=aT c ch wN b ag
   refine⟨ai,bk.imp (fun⟨cy,cr,aa,af⟩=>⟨cy,cr,eN aa,.inl (gi.2 ⟨cr,aa⟩),af⟩) id⟩)
  (fun c bY ch bg b hc dw j8 jB bf ag dm=>by
   have aa:=tS c ch hc j8
   have af:=tS bY bg dw jB
   rw[kV c ch aa] at ag
   rw[kV bY bg af] at dm
   exact jA c bY ch bg b aa af bf ag dm)
 refine⟨lz.trans hn,put_defers.trans hd,ρ',cY,bT,(hS.mono bA fun s d hd=>di d fun hn=>by rw[(ou d hn).1 s] at hd;cases hd).lB (fun e he=>by rw[hn];exact bH e he) (cj.mono ov _ _ (fun _ _=>rfl) ep)⟩
theorem S7 {f:FuncId} {args:List aN}
  (hex: ∀(ρ:Nat→bn) (I:Nat→Prop) (a:Act) (w:World),ei K ρ I a w→ ∃b6:List Value,(l6 P f=true→(execOp a.eval o).run P w= .ok (.enter f b6.toArray) w)∧b6.length=args.length∧ ∀(i:Nat) (v:aN) (x:Value),args[i]? =some v→b6[i]? =some x→cj ρ I w v x)
  {X:Type} {aP:aG} {bu:List Nat} {res:X→aN} {aZ:X→aG} (S8:hM P f args aP bu res aZ) (iN:nA B aP) (Gs:q5 ids K B bu=true) (bD: ∀g,(q5 ids K B bu&&oI aP bu (aZ g))=true)
  {C:Ctx} {a:Act} {w:World} (hs:Sat N ids C K B a w) (bH: ∀d,o.dst=some d→d < N) {fl:Act→World→Prop} {Q:Exit→Act→World→Prop} (hK: ∀g a' w',Sat N ids C (lZ o.dst (res g) K) (e5 (jy aP (aZ g)) B) a' w'→fl a' w'):o.wp P a w fl Q:=by
 obtain⟨iH,nJ⟩:=S8
 obtain⟨hn,hd,ρ,F,az,hS⟩:=hs
 have eN: ∀{c ch},ax aP c=some ch→ax B c=some ch:=fun {c ch} hc=>kq iN hc
 obtain⟨b6,ef,qB,sD⟩:=hex ρ _ a w hS
 have hc:=nJ ρ F (bS C B F w) w b6 (fun b ag=>ag.1) (fun c ch hc=>az.holds c ch (eN hc)) (fun c ch hc b ag=>⟨(az.own c ch (eN hc) b ag).1,fun bC=>bC.2.2 c ch (eN hc) ag⟩)
  (fun c bY ch bg b aa af=>az.e4 c bY ch bg b (eN aa) (eN af)) qB sD
 unfold Oper.wp
 rw[ef iH,Oper.upon_enter]
 refine hc.mono ?_
 rintro e w' ⟨g,x,ρ',F',rfl,cv,di,I',kG,iu,eo,aT,jA,ep⟩
 exact hK g _ _ (Sat.back iN Gs (Bool.and_eq_true _ _▸bD g).2 hn hd az hS bH cv di iu eo aT jA ep)
theorem hM.of (aX:dP P tt) {f:FuncId} {fn:Func} {c:Code} (stops:List Nat) (args:List aN) (aP:aG) (bu:List Nat) {X:Type} (res:X→aN) (aZ:X→aG) (hf:P.funcs[f]? =some fn) (ag:fn.body=some c) (hn:fn.ntmps=N) (iH:l6 P f=true) (hc:kr P N c=true) (fL:Nat.ble args.length N=true) (bW:yH P tt N (cS aP)) {rs:List ResultVar} (F8:fn.results.toList=rs)
  (h:vc P tt N (cS aP) stops c (rB 0 args) aP (fun e K B=> ∃g,Lc tt (cS aP) bu rs (res g) (aZ g) e K B)):hM P f args aP bu res aZ:=by
 refine⟨iH,?_⟩
 intro ρ F I w b6 bC eo hF fZ hlen ep
 have fL:=Nat.le_of_ble_eq_true fL
 refine K1 (r:=none) (n:=0) (callsIn_of_wp_marks hf ag trivial ?_)
 let C:Ctx:=⟨w,I,fun b=> ∃c ch,ax aP c=some ch∧F c b,ρ,[]⟩
 have rC:Ext I w (bS C aP F w) w:=fun b ag=>⟨⟨bC b ag,.inl ag,fun c ch hc pU=>(hF c ch hc b pU).2 ag⟩,rfl⟩
 have az:Mem (cS aP) C aP ρ F w:=⟨Fr.refl _ _,fun c ch hc=>Holds.cA rC (fun _ _=>rfl) (Nat.le_refl _) ch (fun _ _=>rfl) (eo c ch hc),fun c ch hc b ag=>⟨(hF c ch hc b ag).1,.inl ⟨c,ch,hc,ag⟩⟩,fZ,fun c _=>rfl,List.nodup_nil,fun b ag=>ag.elim (bC b) fun⟨c,ch,hc,AF⟩=>(hF c ch hc b AF).1,fun D bW=>by cases bW⟩
 refine yI aX bW stops c _ _ _ hc h none (fun _=>rfl) C _ ?_ _ w ⟨by simp[hlen,hn];omega,rfl,ρ,F,az,fun s=>?_⟩
 ·intro e K' B' ds _ he a' w' dH
  obtain⟨g,he⟩:=he
  cases e with
  |ex i=>exact he.elim
  |_=>
   obtain⟨Ld,jl,r,hle,hr,hp,iN,oQ⟩:=he
   refine Lb dH fun w' dH=>?_
   obtain⟨jc,jk,ρ',F',bT,AG⟩:=hle N C _ w' dH
   obtain⟨vs,ef,rD⟩: ∃vs:List Value,(rs.mapM (sF a'.tmps)).run P w'= .ok vs w'∧iD ρ' (bS C jl F' w') w' r vs:=CY aX bT AG rs r hr
   have kW: ∃x,(results fn a'.tmps).run P w'= .ok x w'∧cj ρ' (bS C jl F' w') w' (F4 r) x:=by
    have aa:fn.results=rs.toArray:=by rw[←F8]
    have af:(fn.results.mapM (sF a'.tmps)).run P w'= .ok (List.toArray vs) w':=by
     rw[aa,List.mapM_toArray]
     simp[ef]
    have aA:results fn a'.tmps=(do let vs←fn.results.mapM (sF a'.tmps);pure (if h:vs.size=1 then vs[0] else .tuple vs)):=rfl
    rw[aA]
    match r,vs,rD,af with
    | [],_,e,af=>rw[show _=[] from e] at af;exact⟨.tuple #[],by simp[af],[],rfl,rfl⟩
    | [x],_,⟨v,s,e,hv,hs⟩,af=>
     have hs:s=[]:=hs
     subst hs e
     exact⟨v,by simp[af],hv⟩
    |x::y::r,_,⟨v,s,e,hv,v2,s2,aq,tT,e6⟩,af=>
     subst aq e
     exact⟨.tuple (List.toArray (v::v2::s2)),by simp[af],_,rfl,v,_,rfl,hv,v2,s2,rfl,tT,e6⟩
   obtain⟨x,hx,rz⟩:=kW
   have rz:=wS hp rz
   simp only[Bool.and_eq_true] at oQ
   let tU:Nat→bn:=fun c=>if c∈bu then ρ' c else ρ c
   have qC: ∀c,c∈cS aP++bu→tU c=ρ' c:=fun c hc=>by
    show(if c∈bu then ρ' c else ρ c)=ρ' c
    split
    ·rfl
    ·rename_i hn
     rcases List.mem_append.1 hc with h |h
     ·exact(bT.keep c h).symm
     ·exact absurd h hn
   refine⟨x,hx,g,x,tU,F',rfl,bT.ja,fun c hc=>if_neg hc,bS C jl F' w',?_,fun b ag=>⟨ag.1,?_⟩,?_,?_,?_,?_⟩
   ·intro b ag
    have u6: ¬C.pL b:=fun⟨c,ch,aa,af⟩=>(hF c ch aa b af).2 ag
    refine⟨⟨Nat.lt_of_lt_of_le (bC b ag) bT.ja.size,.inl ag,fun c ch hc pU=>?_⟩,bT.ja.block b (bC b ag) u6⟩
    rcases(bT.own c ch hc b pU).2 with h |h
    ·exact u6 h
    ·have:=bC b ag;exact absurd h.1 (Nat.not_le.2 this)
   ·rcases ag.2.1 with h |h |h
    ·exact .inl h
    ·exact .inr (.inl h)
    ·exact .inr (.inr h.1)
   ·intro c ch hc
    have au:c∈cS aP++bu:=by
     have:=List.all_eq_true.1 oQ.2 c (gi.2 ⟨ch,hc⟩)
     simpa only[List.contains_iff_mem] using this
    rw[qC c au]
    exact Holds.cA (Ext.refl _ _) (fun _ _=>rfl) (Nat.le_refl _) ch (fun d hd=>qC d (bF.ku (yK oQ.1.2 hc) hd)) (bT.holds c ch (kq iN hc))
   ·intro c ch hc b ag
    have dw:=kq iN hc
    exact⟨(bT.own c ch dw b ag).1,fun ay=>ay.2.2 c ch dw ag,(bT.own c ch dw b ag).2.imp id fun x=>x.1⟩
   ·exact fun c bY ch bg b aa af=>bT.e4 c bY ch bg b (kq iN aa) (kq iN af)
   ·exact cj.mono (Ext.refl _ _) (res g) x (fun c hc=>qC c (aN.ku oQ.1.1 hc)) rz
 ·rw[AD]
  simp only[Nat.zero_le,if_true,Nat.sub_zero]
  cases hs:args[s]? with
  |none=>trivial
  |some v=>
   have bH:s < b6.length:=by rw[hlen];exact(List.getElem?_eq_some_iff.1 hs).1
   simp only[Option.getD_some]
   have hx:b6[s]? =some b6[s]:=List.getElem?_eq_getElem bH
   have:=cj.mono rC v _ (fun _ _=>rfl) (ep s v _ hs hx)
   simpa[Array.getElem?_append,bH,hx] using this
def Gt (K:aQ) (o:Oper):Option (FuncId×List aN):=match o.op with
 | .call c=>match c.callee with
  | .value (.func f)=>some (f,c.args.toList.map (aU K))
  | .value (.tmp t)=>match look K t with
   | .c (.one (.eH f l))=>some (f,c.args.toList.map (aU K)++oh l)
   |_=>none
  |_=>none
 |_=>none
def S9 (P:Program) (f:FuncId) (args:List aN) (ids:List Nat) (K:aQ) (B:aG) (k:aN→fk→Prop):Prop:=
 ∃(X:Type) (aP:aG) (bu:List Nat) (res:X→aN) (aZ:X→aG),hM P f args aP bu res aZ∧nA B aP∧q5 ids K B bu=true∧(∀g,(q5 ids K B bu&&oI aP bu (aZ g))=true)∧ ∀g,og (res g) fun r=>k r ⟨cS aP,bu,jy aP (aZ g)⟩
def Dj (P:Program) (ids:List Nat) (o:Oper) (K:aQ) (B:aG) (S:aN→fk→Prop):Prop:=
 ∀(N:Nat) (C:Ctx) (a:Act) (w:World),Sat N ids C K B a w→(∀d,o.dst=some d→d < N)→ ∀(fl:Act→World→Prop) (Q:Exit→Act→World→Prop),(∀v e a' w',S v e→Sat N ids C (lZ o.dst v K) (e5 e.wc B) a' w'→fl a' w')→o.wp P a w fl Q
def Ta (o:Oper):Bool:=match o.op with
 | .next _ _=>true
 | .binOp .eql _ _ (.const (.slice none 0 0)) _=>true
 | .call c=>match c.callee with
  | .builtin .delete=>true
  |_=>false
 |_=>false
def yU (P:Program) (l:Nat) (args:List aN) (aP:aG) {X:Type} (res:X→aN) (aZ:X→aG):Prop:=
 ∀(ρ:Nat→bn) (F:Nat→Nat→Prop) (I:Nat→Prop) (w:World) (b6:List Value),
  (∀b,I b→b < w.heap.size)→(∀c ch,ax aP c=some ch→Holds ρ I (F c) w (ρ c) ch)→(∀c ch,ax aP c=some ch→ ∀b,F c b→b < w.heap.size∧ ¬I b)→
  (∀c bY ch bg b,ax aP c=some ch→ax aP bY=some bg→c≠bY→F c b→ ¬F bY b)→
  b6.length=args.length→(∀(i:Nat) (v:aN) (x:Value),args[i]? =some v→b6[i]? =some x→cj ρ I w v x)→
  ∃f tmps assign body,(Instr.yield l b6.toArray).run P w= .ok (.round l f tmps assign body) w∧RoundIn (nC none) 0 P l f tmps assign body w fun e w'=> ∃(g:X) (x:Value) (ρ':Nat→bn) (F':Nat→Nat→Prop),e= .returned x∧Fr (fun b=> ∃c ch,ax aP c=some ch∧F c b) w w'∧(∀c,ρ' c=ρ c)∧
   ∃I':Nat→Prop,Ext I w I' w'∧(∀b,I' b→b < w'.heap.size∧(I b∨(∃c ch,ax aP c=some ch∧F c b)∨w.heap.size≤b))∧
   (∀c ch,ax (aZ g) c=some ch→Holds ρ' I' (F' c) w' (ρ' c) ch)∧
   (∀c ch,ax (aZ g) c=some ch→ ∀b,F' c b→b < w'.heap.size∧ ¬I' b∧((∃cy cr,ax aP cy=some cr∧F cy b)∨w.heap.size≤b))∧
   (∀c bY ch bg b,ax (aZ g) c=some ch→ax (aZ g) bY=some bg→c≠bY→F' c b→ ¬F' bY b)∧cj ρ' I' w' (res g) x
def yieldOf (K:aQ) (o:Oper):Option (Nat×List aN):=match o.op with
 | .call c=>match c.callee with
  | .value (.tmp t)=>match look K t with
   | .c (.one (.raw (.func (.yield l) fs cs)))=>match fs.toList,cs.toList with
    | [],[]=>some (l,c.args.toList.map (aU K))
    |_,_=>none
   |_=>none
  |_=>none
 |_=>none
def Tb (P:Program) (l:Nat) (args:List aN) (B:aG) (k:aN→fk→Prop):Prop:=
 ∃(X:Type) (aP:aG) (res:X→aN) (aZ:X→aG),yU P l args aP res aZ∧nA B aP∧(∀g,oI aP [] (aZ g)=true)∧ ∀g,og (res g) fun r=>k r ⟨cS aP,[],jy aP (aZ g)⟩
theorem Tc {ev:Operand→Value} {l:Nat} {c:Call} {x:Operand} {xs:List Operand} {w:World} (av:o.op= .call c) (aa:c.callee= .value x) (af:c.args.toList=xs) (Av:ev x= .func (.yield l) #[] #[]):(execOp ev o).run P w=(Instr.yield l (xs.map ev).toArray).run P w:=by
 have fL:c.args=xs.toArray:=by rw[←af]
 obtain⟨sB,args,ts⟩:=c
 simp only at aa fL
 subst aa fL
 simp[execOp,av,resolve,invoke,Av,Deferred.ofValue]
theorem Td {l:Nat} {xs:List aN} (h:yieldOf K o=some (l,xs)) {ρ:Nat→bn} {I:Nat→Prop} {a:Act} {w:World} (hS:ei K ρ I a w): ∃b6:List Value,(execOp a.eval o).run P w=(Instr.yield l b6.toArray).run P w∧(∀c,o.op≠ .defer c)∧b6.length=xs.length∧ ∀(i:Nat) (v:aN) (x:Value),xs[i]? =some v→b6[i]? =some x→cj ρ I w v x:=by
 unfold yieldOf at h
 split at h
 ·rename_i c av
  split at h
  ·rename_i t hc
   split at h
   ·rename_i l' fs cs aB
    split at h
    ·rename_i uZ oK
     injection h with h
     injection h with aa af
     subst aa af
     have uZ:fs= #[]:=by rw[←Array.toList_inj];exact uZ
     have oK:cs= #[]:=by rw[←Array.toList_inj];exact oK
     subst uZ oK
     have hv:a.eval (.tmp t)= .func (.yield l') #[] #[]:=hS.ev (x:=.tmp t) (s:=.c (.one (.raw (.func (.yield l') #[] #[])))) aB
     have dD: ∀d,o.op≠ .defer d:=fun d e=>by rw[av] at e;cases e
     refine⟨c.args.toList.map a.eval,?_,dD,by simp,fun i v x hv hx=>?_⟩
     ·exact Tc av hc rfl hv
     ·rw[List.getElem?_map] at hv hx
      obtain⟨z,aS,rfl⟩:=Option.map_eq_some_iff.1 hv
      rw[aS] at hx
      simp only[Option.map_some,Option.some.injEq] at hx
      subst hx
      exact hS.get z
    ·cases h
   ·cases h
  ·cases h
 ·cases h
theorem Te {l:Nat} {args:List aN} (av:yieldOf K o=some (l,args)) {X:Type} {aP:aG} {res:X→aN} {aZ:X→aG} (aF:yU P l args aP res aZ) (iN:nA B aP) (bD: ∀g,oI aP [] (aZ g)=true)
  {C:Ctx} {a:Act} {w:World} (hs:Sat N ids C K B a w) (bH: ∀d,o.dst=some d→d < N) {r:Option Nat} {fl:Act→World→Prop} {Q:Exit→Act→World→Prop} (hK: ∀g a' w',Sat N ids C (lZ o.dst (res g) K) (e5 (jy aP (aZ g)) B) a' w'→fl a' w'):o.wpIn (nC r) 0 P a w fl Q:=by
 obtain⟨hn,hd,ρ,F,az,hS⟩:=hs
 have eN: ∀{c ch},ax aP c=some ch→ax B c=some ch:=fun {c ch} hc=>kq iN hc
 obtain⟨b6,ef,dD,qB,sD⟩:=Td (P:=P) (w:=w) av hS
 obtain⟨f,tmps,assign,body,Tf,Tg⟩:=aF ρ F (bS C B F w) w b6 (fun b ag=>ag.1) (fun c ch hc=>az.holds c ch (eN hc)) (fun c ch hc b ag=>⟨(az.own c ch (eN hc) b ag).1,fun bC=>bC.2.2 c ch (eN hc) ag⟩)
  (fun c bY ch bg b aa af=>az.e4 c bY ch bg b (eN aa) (eN af)) qB sD
 refine⟨fun _ _=>trivial,?_⟩
 rw[Oper.semAt_eq _ _ _ dD,ef,Tf,Oper.uponIn_round]
 refine⟨fun hs=>absurd hs (by simp),RoundIn.mono (F:=nC r) (n:=0 - 1) Tg ?_⟩
 rintro e w' ⟨g,x,ρ',F',rfl,cv,di,I',kG,iu,eo,aT,jA,ep⟩
 exact hK g _ _ (Sat.back iN rfl (bD g) hn hd az hS bH cv (fun c _=>di c) iu eo aT jA ep)
def Th (K:aQ) (o:Oper):Bool:=match o.op with
 | .mapUpdate _ _ _ v=>match aU K v with
  | .c (.one (.ptr _ 0))=>true
  |_=>false
 |_=>false
def Gu (P:Program) (tt:c4) (ids:List Nat) (o:Oper) (K:aQ) (B:aG) (k:aN→fk→Prop):Prop:=match Gt K o with
 |some (f,xs)=>S9 P f xs ids K B k
 |none=>match yieldOf K o with
  |some (l,xs)=>Tb P l xs B k
  |none=>match Ta o||Th K o with
   |true=> ∃S:aN→fk→Prop,Dj P ids o K B S∧ ∀v e,S v e→og v fun v=>k v e
   |false=>yh P tt ids o K B k
def Gv (P:Program) (tt:c4) (ids:List Nat) (all:List Oper) (o:Oper) (l:List Oper) (aY:aQ→aG→Prop) (K:aQ) (B:aG):Prop:=
 match wants all K o.guard with
 |none=>False
 |some false=>match o.dst with
  |some d=>aY ((d,.undef)::K) B
  |none=>aY K B
 |some true=>Gu P tt ids o K B fun v e=>match o.dst with
  |none=>aY K (e5 e.wc B)
  |some d=>match Af (all.length - l.length - 1) l,v with
   |true,.c (.one (.d (.bool b)))=>(b=true→aY ((d,.c (.one (.d (.lit true))))::K) (e5 e.wc B))∧(b=false→aY ((d,.c (.one (.d (.lit false))))::K) (e5 e.wc B))
   |_,v=>aY ((d,v)::K) (e5 e.wc B)
noncomputable def Dk (P:Program) (tt:c4) (ids:List Nat) (all l:List Oper) (K:aQ) (B:aG) (k:aQ→aG→Prop):Prop:=
 List.rec (motive:=fun _=>aQ→aG→Prop) k (fun o l aY K B=>Gv P tt ids all o l aY K B) l K B
theorem Ti {all l:List Oper} {k:aQ→aG→Prop}:Dk P tt ids all (o::l) K B k=Gv P tt ids all o l (fun K B=>Dk P tt ids all l K B k) K B:=rfl
theorem Tj {f:FuncId} {xs:List aN} (h:Gt K o=some (f,xs)) (ρ:Nat→bn) (I:Nat→Prop) (a:Act) (w:World) (hS:ei K ρ I a w): ∃b6:List Value,(l6 P f=true→(execOp a.eval o).run P w= .ok (.enter f b6.toArray) w)∧b6.length=xs.length∧ ∀(i:Nat) (v:aN) (x:Value),xs[i]? =some v→b6[i]? =some x→cj ρ I w v x:=by
 unfold Gt at h
 split at h
 ·rename_i c av
  split at h
  ·rename_i f' hc
   injection h with h
   injection h with aa af
   subst aa af
   refine⟨c.args.toList.map a.eval,fun iH=>KQ iH av hc rfl rfl,by simp,fun i v x hv hx=>?_⟩
   rw[List.getElem?_map] at hv hx
   obtain⟨z,aS,rfl⟩:=Option.map_eq_some_iff.1 hv
   rw[aS] at hx
   simp only[Option.map_some,Option.some.injEq] at hx
   subst hx
   exact hS.get z
  ·rename_i t hc
   split at h
   ·rename_i f' l aB
    injection h with h
    injection h with aa af
    subst aa af
    have hv:=hS t
    rw[aB] at hv
    obtain⟨vs,e,Gw⟩:=hv
    obtain⟨cK,c5⟩:=gS.b6 l vs Gw
    refine⟨c.args.toList.map a.eval++vs,fun iH=>F1 iH av hc rfl e,by simp[cK],fun i v x hv hx=>?_⟩
    by_cases ay:i < c.args.toList.length
    ·rw[List.getElem?_append_left (by simpa using ay)] at hv hx
     rw[List.getElem?_map] at hv hx
     obtain⟨z,aS,rfl⟩:=Option.map_eq_some_iff.1 hv
     rw[aS] at hx
     simp only[Option.map_some,Option.some.injEq] at hx
     subst hx
     exact hS.get z
    ·rw[List.getElem?_append_right (by simpa using ay)] at hv hx
     simp only[List.length_map] at hv hx
     exact c5 _ v x hv hx
   ·cases h
  ·cases h
 ·cases h
theorem Tk (aX:dP P tt) (dD: ∀c,o.op≠ .defer c) (r:Option Nat) {k:aN→fk→Prop} (h:Gu P tt ids o K B k) {C:Ctx} {a:Act} {w:World} (hs:Sat N ids C K B a w) (bH: ∀d,o.dst=some d→d < N) {fl:Act→World→Prop} {Q:Exit→Act→World→Prop} (hK: ∀v e a' w',k v e→Sat N ids C (lZ o.dst v K) (e5 e.wc B) a' w'→fl a' w'):o.wpIn (nC r) 0 P a w fl Q:=by
 unfold Gu at h
 split at h
 ·rename_i f xs hc
  obtain⟨X,aP,bu,res,aZ,aa,af,aA,bE,ec⟩:=h
  refine yG dD (S7 (Tj hc) aa af aA bE hs bH fun g a' w' dH=>?_)
  have ec:=ec g
  rw[tH] at ec
  exact hK _ _ _ _ ec dH
 ·split at h
  ·rename_i l xs hc
   obtain⟨X,aP,res,aZ,aa,af,aA,bE⟩:=h
   refine Te hc aa af aA hs bH fun g a' w' dH=>?_
   have bE:=bE g
   rw[tH] at bE
   exact hK _ _ _ _ bE dH
  ·split at h
   ·obtain⟨S,hS,h⟩:=h
    refine yG dD (hS N C a w hs bH fl Q fun v e a' w' hv dH=>?_)
    have h:=h v e hv
    rw[tH] at h
    exact hK _ _ _ _ h dH
   ·obtain⟨v,e,h,aT,hf⟩:=Ay aX h
    exact yG dD (aT K B (fun _ _=>rfl) (fun _ _=>rfl) hf C a w hs bH fl Q fun a' w' e6=>hK _ _ _ _ h e6)
theorem w9 (aX:dP P tt) (all:List Oper): ∀(l:List Oper) (K:aQ) (B:aG) (k:aQ→aG→Prop),pT N l=true→Dk P tt ids all l K B k→ ∀(C:Ctx) (a:Act) (w:World),Sat N ids C K B a w→
  ∀(r:Option Nat) (Q:Exit→Act→World→Prop),(∀K' B',k K' B'→ ∀a' w',Sat N ids C K' B' a' w'→Q .normal a' w')→wpListIn (nC r) 0 P all.toArray Q l a w
 | [],K,B,k,_,h,C,a,w,hs,r,Q,au=>wpListIn_nil (au K B h a w hs)
 |o::l,K,B,k,hd,h,C,a,w,hs,r,Q,au=>by
  simp only[pT,Bool.and_eq_true] at hd
  obtain⟨⟨rA,dD⟩,dg⟩:=hd
  have dD:=CX dD
  have bH: ∀d,o.dst=some d→d < N:=fun d e=>by rw[e] at rA;simpa[Nat.blt_eq] using rA
  have dH:=hs
  obtain⟨_,_,ρ,F,az,hS⟩:=dH
  rw[Ti] at h
  unfold Gv at h
  refine wpListIn_step fun fl u5=>?_
  split at h
  ·exact h.elim
  ·rename_i hw
   rw[if_neg (by rw[u0 hw hS];simp)]
   refine⟨fun _ _=>trivial,u5 _ _ ?_⟩
   have hu:=hs.undef o.dst bH
   split at h
   ·rename_i d e
    rw[e] at hu⊢
    exact w9 aX all l _ _ k dg h C _ w hu r Q au
   ·rename_i e
    rw[e] at hu⊢
    exact w9 aX all l _ _ k dg h C _ w hu r Q au
  ·rename_i hw
   rw[if_pos (u0 hw hS)]
   refine Tk aX dD r h hs bH fun v e a' w' h e6=>u5 _ _ ?_
   split at h
   ·rename_i aq
    rw[aq] at e6
    exact w9 aX all l _ _ k dg h C _ w' e6 r Q au
   ·rename_i d aq
    rw[aq] at e6
    split at h
    ·rename_i b bl
     cases b with
     |true=>exact w9 aX all l _ _ k dg (h.1 rfl) C _ w' e6.lit r Q au
     |false=>exact w9 aX all l _ _ k dg (h.2 rfl) C _ w' e6.lit r Q au
    ·exact w9 aX all l _ _ k dg h C _ w' e6 r Q au
theorem aE.sJ (aX:dP P tt) {id:Nat} {ops:Array Oper} {Q:om→aQ→aG→Prop} (hd:pT N ops.toList=true) (h:Dk P tt ids ops.toList ops.toList K B (fun K B=>Q .gf K B)):aE P N ids (.region id ops false) K B Q:=by
 intro r hr C gJ bh a w hs
 refine wpIn_region_list ?_
 have:=w9 aX ops.toList ops.toList K B _ hd h C a w hs r gJ (fun K' B' au a' w' dH=>bh .gf K' B' C.ds (fun _=>rfl) au a' w' dH)
 simpa using this
def j9 (ids:List Nat) (K:aQ) (B:aG) {X:Type} (K':X→aQ) (B':X→aG):Prop:= ∀(N:Nat) (C:Ctx) (a:Act) (w:World),Sat N ids C K B a w→ ∃x,Sat N ids C (K' x) (B' x) a w
theorem aE.Dl {c:Code} {X:Type} {K':X→aQ} {B':X→aG} {Q:om→aQ→aG→Prop} (h:j9 ids K B K' B') (cl: ∀x,aE P N ids c (K' x) (B' x) Q):aE P N ids c K B Q:=fun r hr C gJ bh a w hs=>by
 obtain⟨x,hx⟩:=h N C a w hs
 exact cl x r hr C gJ bh a w hx
end
end Go.Proofs.YteoamepgonpdlaaGreat
