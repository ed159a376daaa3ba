/-
Part 7 of the proof that stands in YteoamepgonpdlaaGreatPbRow, with what it needs from the parts ahead; the parts of this text: Tbl, RowG, RowF, Lays, Gh, Grp, Cd, Gx.
-/
import Derived.Test.YteoamepgonpdlaaGreatProg
import Derived.WalkKit
import Derived.ProofKit
import Derived.OpenShut
import Derived.JoinedCond
import Derived.Below
import Derived.Carry
import Derived.ChangeSame
import Derived.Shelf.SlIter.Nil
import Derived.Shelf.SlIterI.Nil
import Derived.Shelf.SortM.Plain
import Derived.Shelf.SortM.SortNone
import Derived.Shelf.SlMaps.Clone
import Derived.Ground.GgzProg
import Derived.Ground.SlgmProg
import Derived.Ground.SlmcProg
import Derived.Test.YteoamepgonpdlaaGreatPb6
/-!
  The types of this seat, as the generator of conditions wants them.
-/
namespace Go.Proofs.YteoamepgonpdlaaGreat
open Go.RowKit
namespace tbl
/-- int -/
def t3 : TI:=⟨.int .i64,1,false,[.d (.int .i64 0)],[],some (.int .i64),8⟩
/-- bool -/
def t4 : TI:=⟨.bool,1,false,[.d (.lit false)],[],some .bool,1⟩
/-- uint8 -/
def t5 : TI:=⟨.int .u8,1,false,[.d (.int .u8 0)],[],some .u8,1⟩
/-- string -/
def t9 : TI:=⟨.str,1,false,[.d (.str [])],[],some .str,16⟩
/-- int32 -/
def t21 : TI:=⟨.int .i32,1,false,[.d (.int .i32 0)],[],some (.int .i32),4⟩
/-- []pentimentoref14.Op -/
def t22 : TI:=⟨.sl 38,1,false,[.nils],[],some (.sl (.pr (.int .i64) (.pr (.int .i64) (.pr .str (.pr .str (.pr (.int .i64) (.pr (.int .i64) (.pr (.int .i64) (.pr (.sl .u8) .str))))))))),24⟩
/-- *chain.Chain -/
def t23 : TI:=⟨.ptr 99,1,false,[.raw (.pointer none)],[],some .adr,8⟩
/-- api.Errno -/
def t24 : TI:=⟨.int .i64,1,false,[.d (.int .i64 0)],[],some (.int .i64),8⟩
/-- []pentimentoref14.Disk -/
def t27 : TI:=⟨.sl 124,1,false,[.nils],[],some (.sl (.pr .str (.pr .str (.pr (.int .i64) (.pr (.int .i64) (.pr (.sl (.pr (.int .i64) (.int .i64))) (.pr (.sl (.pr .str (.sl (.pr (.int .i64) (.int .i64))))) (.sl .str)))))))),24⟩
/-- pentimentoref14.Chain -/
def t29 : TI:=⟨.st,3,true,[.d (.int .i64 0),.d (.int .i64 0),.nils],[(0,1),(1,1),(2,1)],some (.pr (.int .i64) (.pr (.int .i64) (.sl (.pr .str (.pr .str (.pr (.int .i64) (.pr (.int .i64) (.pr (.sl (.pr (.int .i64) (.int .i64))) (.pr (.sl (.pr .str (.sl (.pr (.int .i64) (.int .i64))))) (.sl .str)))))))))),40⟩
/-- []uint8 -/
def t34 : TI:=⟨.sl 5,1,false,[.nils],[],some (.sl .u8),24⟩
/-- pentimentoref12.Op -/
def t36 : TI:=⟨.st,5,true,[.d (.int .i64 0),.d (.int .i64 0),.d (.int .i64 0),.nils,.d (.str [])],[(0,1),(1,1),(2,1),(3,1),(4,1)],some (.pr (.int .i64) (.pr (.int .i64) (.pr (.int .i64) (.pr (.sl .u8) .str)))),64⟩
/-- pentimentoref14.Op -/
def t38 : TI:=⟨.st,9,true,[.d (.int .i64 0),.d (.int .i64 0),.d (.str []),.d (.str []),.d (.int .i64 0),.d (.int .i64 0),.d (.int .i64 0),.nils,.d (.str [])],[(0,1),(1,1),(2,1),(3,1),(4,5)],some (.pr (.int .i64) (.pr (.int .i64) (.pr .str (.pr .str (.pr (.int .i64) (.pr (.int .i64) (.pr (.int .i64) (.pr (.sl .u8) .str)))))))),112⟩
/-- []api.Extent -/
def t46 : TI:=⟨.sl 114,1,false,[.nils],[],some (.sl (.pr (.int .i64) (.pr (.int .i64) (.int .i64)))),24⟩
/-- *image.Image -/
def t49 : TI:=⟨.ptr 165,1,false,[.raw (.pointer none)],[],some .adr,8⟩
/-- pentimentolaw16.Seat -/
def t54 : TI:=⟨.st,2,true,[.d (.str []),.d (.str [])],[(0,1),(1,1)],some (.pr .str .str),32⟩
/-- []pentimentoref15.Op -/
def t55 : TI:=⟨.sl 66,1,false,[.nils],[],some (.sl (.pr (.int .i64) (.pr (.int .i64) (.pr (.int .i64) (.pr (.int .i64) (.pr (.sl .u8) .str)))))),24⟩
/-- *pull.Job -/
def t58 : TI:=⟨.ptr 137,1,false,[.raw (.pointer none)],[],some .adr,8⟩
/-- pentimentoref16.Job -/
def t62 : TI:=⟨.st,3,true,[.d (.str []),.d (.str []),.d (.lit false)],[(0,1),(1,1),(2,1)],some (.pr .str (.pr .str .bool)),40⟩
/-- pentimentoref15.Op -/
def t66 : TI:=⟨.st,6,true,[.d (.int .i64 0),.d (.int .i64 0),.d (.int .i64 0),.d (.int .i64 0),.nils,.d (.str [])],[(0,1),(1,5)],some (.pr (.int .i64) (.pr (.int .i64) (.pr (.int .i64) (.pr (.int .i64) (.pr (.sl .u8) .str))))),72⟩
/-- *merge.Job -/
def t79 : TI:=⟨.ptr 146,1,false,[.raw (.pointer none)],[],some .adr,8⟩
/-- []bool -/
def t82 : TI:=⟨.sl 4,1,false,[.nils],[],some (.sl .bool),24⟩
/-- pentimentoref15.Job -/
def t84 : TI:=⟨.st,4,true,[.d (.str []),.d (.str []),.nils,.d (.lit false)],[(0,1),(1,1),(2,1),(3,1)],some (.pr .str (.pr .str (.pr (.sl .bool) .bool))),64⟩
/-- map[string]*chain.disk -/
def t97 : TI:=⟨.mp 9 127,1,false,[.raw (.map none)],[],none,8⟩
/-- chain.Chain -/
def t99 : TI:=⟨.st,3,true,[.d (.int .i64 0),.d (.int .i64 0),.raw (.map none)],[(0,1),(1,1),(2,1)],none,24⟩
/-- []pentimentoref12.Cell -/
def t100 : TI:=⟨.sl 148,1,false,[.nils],[],some (.sl (.pr (.int .i64) (.int .i64))),24⟩
/-- []pentimentoref12.Snap -/
def t101 : TI:=⟨.sl 229,1,false,[.nils],[],some (.sl (.pr .str (.sl (.pr (.int .i64) (.int .i64))))),24⟩
/-- []string -/
def t102 : TI:=⟨.sl 9,1,false,[.nils],[],some (.sl .str),24⟩
/-- pentimentoref12.Image -/
def t104 : TI:=⟨.st,5,true,[.d (.int .i64 0),.d (.int .i64 0),.nils,.nils,.nils],[(0,1),(1,1),(2,1),(3,1),(4,1)],some (.pr (.int .i64) (.pr (.int .i64) (.pr (.sl (.pr (.int .i64) (.int .i64))) (.pr (.sl (.pr .str (.sl (.pr (.int .i64) (.int .i64))))) (.sl .str))))),88⟩
/-- api.Extent -/
def t114 : TI:=⟨.st,3,true,[.d (.int .i64 0),.d (.int .i64 0),.d (.int .i64 0)],[(0,1),(1,1),(2,1)],some (.pr (.int .i64) (.pr (.int .i64) (.int .i64))),24⟩
/-- pentimentoref14.Disk -/
def t124 : TI:=⟨.st,7,true,[.d (.str []),.d (.str []),.d (.int .i64 0),.d (.int .i64 0),.nils,.nils,.nils],[(0,1),(1,1),(2,5)],some (.pr .str (.pr .str (.pr (.int .i64) (.pr (.int .i64) (.pr (.sl (.pr (.int .i64) (.int .i64))) (.pr (.sl (.pr .str (.sl (.pr (.int .i64) (.int .i64))))) (.sl .str))))))),120⟩
/-- *chain.disk -/
def t127 : TI:=⟨.ptr 130,1,false,[.raw (.pointer none)],[],some .adr,8⟩
/-- []int -/
def t128 : TI:=⟨.sl 3,1,false,[.nils],[],some (.sl (.int .i64)),24⟩
/-- chain.disk -/
def t130 : TI:=⟨.st,2,true,[.raw (.pointer none),.d (.str [])],[(0,1),(1,1)],some (.pr .adr .str),24⟩
/-- pull.Job -/
def t137 : TI:=⟨.st,4,true,[.raw (.pointer none),.d (.str []),.d (.str []),.d (.lit false)],[(0,1),(1,1),(2,1),(3,1)],some (.pr .adr (.pr .str (.pr .str .bool))),48⟩
/-- func string  int  bool -/
def t141 : TI:=⟨.other,1,false,[.raw .nilFunc],[],some .fn,8⟩
/-- map[int]int -/
def t144 : TI:=⟨.mp 3 3,1,false,[.raw (.map none)],[],none,8⟩
/-- merge.Job -/
def t146 : TI:=⟨.st,5,true,[.raw (.pointer none),.d (.str []),.d (.str []),.raw (.map none),.d (.lit false)],[(0,1),(1,1),(2,1),(3,1),(4,1)],none,56⟩
/-- pentimentoref12.Cell -/
def t148 : TI:=⟨.st,2,true,[.d (.int .i64 0),.d (.int .i64 0)],[(0,1),(1,1)],some (.pr (.int .i64) (.int .i64)),16⟩
/-- func func int  bool  -/
def t151 : TI:=⟨.other,1,false,[.raw .nilFunc],[],some .fn,8⟩
/-- iter.Seq[int] -/
def t152 : TI:=⟨.other,1,false,[.raw .nilFunc],[],some .fn,8⟩
/-- *table.Table -/
def t156 : TI:=⟨.ptr 197,1,false,[.raw (.pointer none)],[],some .adr,8⟩
/-- *counts.Counts -/
def t159 : TI:=⟨.ptr 199,1,false,[.raw (.pointer none)],[],some .adr,8⟩
/-- map[int][]uint8 -/
def t162 : TI:=⟨.mp 3 34,1,false,[.raw (.map none)],[],none,8⟩
/-- []image.snap -/
def t163 : TI:=⟨.sl 276,1,false,[.nils],[],some (.sl (.pr .str .adr)),24⟩
/-- image.Image -/
def t165 : TI:=⟨.st,5,true,[.d (.int .i64 0),.raw (.pointer none),.raw (.pointer none),.raw (.map none),.nils],[(0,1),(1,1),(2,1),(3,1),(4,1)],none,56⟩
/-- func string  bool -/
def t166 : TI:=⟨.other,1,false,[.raw .nilFunc],[],some .fn,8⟩
/-- func int  []uint8 -/
def t168 : TI:=⟨.other,1,false,[.raw .nilFunc],[],some .fn,8⟩
/-- func *image.Image  func int  []uint8  api.Errno -/
def t170 : TI:=⟨.other,1,false,[.raw .nilFunc],[],some .fn,8⟩
/-- pentimentoref12.Below -/
def t176 : TI:=⟨.sl 9,1,false,[.nils],[],some (.sl .str),24⟩
/-- func func string  bool  -/
def t182 : TI:=⟨.other,1,false,[.raw .nilFunc],[],some .fn,8⟩
/-- iter.Seq[string] -/
def t183 : TI:=⟨.other,1,false,[.raw .nilFunc],[],some .fn,8⟩
/-- slot.Slot -/
def t188 : TI:=⟨.st,3,true,[.d (.int .i64 0),.d (.int .i64 0),.d (.lit false)],[(0,1),(1,1),(2,1)],some (.pr (.int .i64) (.pr (.int .i64) .bool)),24⟩
/-- func int  bool -/
def t191 : TI:=⟨.other,1,false,[.raw .nilFunc],[],some .fn,8⟩
/-- func   api.Errno -/
def t192 : TI:=⟨.other,1,false,[.raw .nilFunc],[],some .fn,8⟩
/-- map[int]func   api.Errno -/
def t193 : TI:=⟨.mp 3 192,1,false,[.raw (.map none)],[],none,8⟩
/-- map[int]table.group -/
def t195 : TI:=⟨.mp 3 217,1,false,[.raw (.map none)],[],none,8⟩
/-- table.Table -/
def t197 : TI:=⟨.st,2,true,[.d (.int .i64 0),.raw (.map none)],[(0,1),(1,1)],none,16⟩
/-- counts.Counts -/
def t199 : TI:=⟨.st,1,true,[.nils],[(0,1)],some (.sl (.int .i64)),24⟩
/-- func func image.piece  bool  -/
def t200 : TI:=⟨.other,1,false,[.raw .nilFunc],[],some .fn,8⟩
/-- image.piece -/
def t203 : TI:=⟨.st,4,true,[.d (.int .i64 0),.d (.int .i64 0),.d (.int .i64 0),.d (.int .i64 0)],[(0,1),(1,1),(2,1),(3,1)],some (.pr (.int .i64) (.pr (.int .i64) (.pr (.int .i64) (.int .i64)))),32⟩
/-- func image.piece  bool -/
def t204 : TI:=⟨.other,1,false,[.raw .nilFunc],[],some .fn,8⟩
/-- table.group -/
def t217 : TI:=⟨.arr 16 188,48,true,[.d (.int .i64 0),.d (.int .i64 0),.d (.lit false),.d (.int .i64 0),.d (.int .i64 0),.d (.lit false),.d (.int .i64 0),.d (.int .i64 0),.d (.lit false),.d (.int .i64 0),.d (.int .i64 0),.d (.lit false),.d (.int .i64 0),.d (.int .i64 0),.d (.lit false),.d (.int .i64 0),.d (.int .i64 0),.d (.lit false),.d (.int .i64 0),.d (.int .i64 0),.d (.lit false),.d (.int .i64 0),.d (.int .i64 0),.d (.lit false),.d (.int .i64 0),.d (.int .i64 0),.d (.lit false),.d (.int .i64 0),.d (.int .i64 0),.d (.lit false),.d (.int .i64 0),.d (.int .i64 0),.d (.lit false),.d (.int .i64 0),.d (.int .i64 0),.d (.lit false),.d (.int .i64 0),.d (.int .i64 0),.d (.lit false),.d (.int .i64 0),.d (.int .i64 0),.d (.lit false),.d (.int .i64 0),.d (.int .i64 0),.d (.lit false),.d (.int .i64 0),.d (.int .i64 0),.d (.lit false)],[],some (.arr 16 (.pr (.int .i64) (.pr (.int .i64) .bool))),384⟩
/-- pentimentoref12.Snap -/
def t229 : TI:=⟨.st,2,true,[.d (.str []),.nils],[(0,1),(1,1)],some (.pr .str (.sl (.pr (.int .i64) (.int .i64)))),40⟩
/-- uint -/
def t236 : TI:=⟨.int .u64,1,false,[.d (.int .u64 0)],[],some (.int .u64),8⟩
/-- slices.sortedHint -/
def t240 : TI:=⟨.int .i64,1,false,[.d (.int .i64 0)],[],some (.int .i64),8⟩
/-- uint32 -/
def t248 : TI:=⟨.int .u32,1,false,[.d (.int .u32 0)],[],some (.int .u32),4⟩
/-- uint64 -/
def t250 : TI:=⟨.int .u64,1,false,[.d (.int .u64 0)],[],some (.int .u64),8⟩
/-- func int  api.Errno -/
def t252 : TI:=⟨.other,1,false,[.raw .nilFunc],[],some .fn,8⟩
/-- slices.xorshift -/
def t253 : TI:=⟨.int .u64,1,false,[.d (.int .u64 0)],[],some (.int .u64),8⟩
/-- *int -/
def t257 : TI:=⟨.ptr 3,1,false,[.raw (.pointer none)],[],some .adr,8⟩
/-- *slices.xorshift -/
def t259 : TI:=⟨.ptr 253,1,false,[.raw (.pointer none)],[],some .adr,8⟩
/-- image.snap -/
def t276 : TI:=⟨.st,2,true,[.d (.str []),.raw (.pointer none)],[(0,1),(1,1)],some (.pr .str .adr),24⟩
def types : Tr:=(.node (.node (.node (.node (.node (.node (.node .leaf 3 t3 .leaf) 4 t4 .leaf) 5 t5 (.node .leaf 9 t9 .leaf)) 21 t21 (.node (.node (.node .leaf 22 t22 .leaf) 23 t23 .leaf) 24 t24 (.node .leaf 27 t27 .leaf))) 29 t29 (.node (.node (.node (.node .leaf 34 t34 .leaf) 36 t36 .leaf) 38 t38 (.node .leaf 46 t46 .leaf)) 49 t49 (.node (.node .leaf 54 t54 .leaf) 55 t55 (.node .leaf 58 t58 .leaf)))) 62 t62 (.node (.node (.node (.node (.node .leaf 66 t66 .leaf) 79 t79 .leaf) 82 t82 (.node .leaf 84 t84 .leaf)) 97 t97 (.node (.node .leaf 99 t99 .leaf) 100 t100 (.node .leaf 101 t101 .leaf))) 102 t102 (.node (.node (.node (.node .leaf 104 t104 .leaf) 114 t114 .leaf) 124 t124 (.node .leaf 127 t127 .leaf)) 128 t128 (.node (.node .leaf 130 t130 .leaf) 137 t137 (.node .leaf 141 t141 .leaf))))) 144 t144 (.node (.node (.node (.node (.node (.node .leaf 146 t146 .leaf) 148 t148 .leaf) 151 t151 (.node .leaf 152 t152 .leaf)) 156 t156 (.node (.node (.node .leaf 159 t159 .leaf) 162 t162 .leaf) 163 t163 (.node .leaf 165 t165 .leaf))) 166 t166 (.node (.node (.node (.node .leaf 168 t168 .leaf) 170 t170 .leaf) 176 t176 (.node .leaf 182 t182 .leaf)) 183 t183 (.node (.node .leaf 188 t188 .leaf) 191 t191 (.node .leaf 192 t192 .leaf)))) 193 t193 (.node (.node (.node (.node (.node .leaf 195 t195 .leaf) 197 t197 .leaf) 199 t199 (.node .leaf 200 t200 .leaf)) 203 t203 (.node (.node .leaf 204 t204 .leaf) 217 t217 (.node .leaf 229 t229 .leaf))) 236 t236 (.node (.node (.node (.node .leaf 240 t240 .leaf) 248 t248 .leaf) 250 t250 (.node .leaf 252 t252 .leaf)) 253 t253 (.node (.node .leaf 257 t257 .leaf) 259 t259 (.node .leaf 276 t276 .leaf))))))
end tbl
set_option maxRecDepth 100000 in
theorem tblOK : TblOK Tryz.prog tbl.types:=TblOK.of (by kernel_rfl)
theorem mixed : Tryz.prog.follows .mixedOrders = true:=by kernel_rfl
end Go.Proofs.YteoamepgonpdlaaGreat
/-!
  From a contract of a law's function to its row: for laws whose arguments are of the universe and which return true.
-/
namespace Go.Proofs.YteoamepgonpdlaaGreat
set_option linter.unusedVariables false
set_option linter.unusedSimpArgs false
open Go.ChangeShapes Go.WideShapes Go.ChangeAt Go.RowKit
section
variable {H : Type} {enc : TypeId × Value → H} {P : Program}
theorem post_of_below {f : Func} {s : ChangeSpec} {apart fresh handsOn again : Bool} {W W' : World} {args : Array Value} {v : Value} {ds gs : List (DataW H)} {before pa pv : List MemPlace}
   (hW : DataW.Whole enc P f.params.toList s.vars apart W args.toList ds gs before)
   (hres : ∀ (b : Nat) (sp : Nat → Bool) (hd : Bool),DataW.TrodAll enc P W' b sp hd f.resultTypes.toList (v.resultList f.resultTypes.size) (s.fn H (ds ++ gs)).results [])
   (hargs : ∀ sp : Nat → Bool,(∀ p ∈ before,sp p.block = true) → DataW.TrodAll enc P W' 0 sp true f.params.toList args.toList (s.fn H (ds ++ gs)).args pa)
   (hvars : ∀ sp : Nat → Bool,(∀ p ∈ before,sp p.block = true) → DataW.TrodVars enc P W' sp s.vars (s.fn H (ds ++ gs)).vars pv)
   (hps : before = pa ++ pv) (hb : Below W.heap.size W W')
   (hok : ∀ (j : Nat) (t : TypeId) (r : Value),f.resultTypes[j]? = some t → (v.resultList f.resultTypes.size)[j]? = some r → Value.okWide P W' .any 0 t r) :
   s.post enc P f apart fresh handsOn again W args v W':=by
 have hlt : ∀ p ∈ before,p.block < W.heap.size:=fun p hp=>hW.lt p hp
 have hold : ∀ p ∈ before,(fun b=>decide (b < W.heap.size)) p.block = true:=fun p hp=>by simpa using hlt p hp
 refine ⟨ds,gs,before,[],pa,pv,hW,hres _ _ _,hargs _ hold,hvars _ hold,World.keptBut_mono (fun p hp=>⟨hp,?_⟩) (hb.frame (· ∈ before)),fun _=>?_⟩
 · rw [hps,List.mem_append] at hp
   exact Or.inr hp
 · obtain ⟨_,_,_,_,_,hz,hn⟩:=hW
   refine ⟨hok,_,_,([] ++ pa) ++ pv,⟨[] ++ pa,pv,trodAll_append (hargs _ (fun _ _=>rfl)) (hres _ _ _),hvars _ (fun _ _=>rfl),rfl,?_,?_⟩,?_⟩
   · intro b off hp
     have hin : MemPlace.cell b off ∈ before:=by rw [hps]; simpa using hp
     rw [hb.frozen (hlt _ hin)]
     exact hz b off hin
   · intro ha
     have:=hn ha
     rw [hps] at this
     simpa using this
   · intro p hp _
     rw [hps]
     simpa using hp
end
/-- How the engine holds a value of u. -/
def valU : (u : U) → El u → SV
 | .pr u v,x=>.c (.agg (listU (.pr u v) x 0 (sz (.pr u v))))
 | .arr n u,x=>.c (.agg (listU (.arr n u) x 0 (sz (.arr n u))))
 | .int k,x=>.c (.one (.d (cellU (.int k) x 0)))
 | .u8,x=>.c (.one (.d (cellU .u8 x 0)))
 | .bool,x=>.c (.one (.d (cellU .bool x 0)))
 | .str,x=>.c (.one (.d (cellU .str x 0)))
 | .adr,x=>.c (.one (.d (cellU .adr x 0)))
 | .hdl,x=>.c (.one (.d (cellU .hdl x 0)))
 | .fn,x=>.c (.one (.d (cellU .fn x 0)))
 | .sl u,x=>.c (.one (.d (cellU (.sl u) x 0)))
def oneT (P : Program) (t : TypeId) : Bool:=match P.underlying t with
 | some (.struct _)=>false
 | some (.array _ _)=>false
 | some _=>true
 | none=>false
def argOK (P : Program) (u : U) (t : TypeId) : Bool:=tyU P 20 u t && (oneU u == oneT P t) && Nat.beq (P.cellsOf t) (sz u) && P.readableRec t && Nat.blt t P.types.size
section
variable {H : Type} {enc : TypeId × Value → H} {W : World} {P : Program} {ρ : Nat → Pl} {I : Nat → Prop}
theorem denL_listU {u : U} {x : El u} {cs : List Value} (hd : DenU I W u x (fun j=>cs[j]?)) : ∀ (n o : Nat),o + n ≤ sz u → o + n ≤ cs.length → DenL ρ I W (listU u x o n) ((cs.drop o).take n)
 | 0,o,_,_=>by simp [listU,DenL]
 | n + 1,o,h,hl=>by
   obtain ⟨v,hv,hv2⟩:=DenU.cell u x _ o hd (by omega)
   refine ⟨v,(cs.drop (o + 1)).take n,?_,hv2,denL_listU hd n (o + 1) (by omega) (by omega)⟩
   have:=(List.getElem?_eq_some_iff.1 hv).2
   rw [List.drop_eq_getElem_cons (by omega : o < cs.length),List.take_succ_cons,this]
theorem cells_one {t : TypeId} {v : Value} {base : Nat} (h1 : oneT P t = true) (h : Value.okWide P W .any base t v) {fuel : Nat} {sp : Nat → Bool} {u : U} {n : Nat} {x : DataW H × List MemPlace} (hu : tyU P n u t = true) (h2 : oneU u = true) : v.cells.toList = [v]:=by
 cases n with
 | zero=>simp [tyU] at hu
 | succ n =>
   unfold tyU at hu
   split at hu
   case h_1 k k' ht=>obtain ⟨n,rfl⟩:=okWide_int ht h; rfl
   case h_2 k ht=>obtain ⟨n,rfl⟩:=okWide_int ht h; rfl
   case h_3 ht=>obtain ⟨n,rfl⟩:=okWide_bool ht h; rfl
   case h_4 ht=>obtain ⟨n,rfl⟩:=okWide_string ht h; rfl
   case h_5 e v ht=>obtain ⟨a,b,c,rfl⟩:=okWide_slice ht h; rfl
   case h_6=>simp [oneU] at h2
   case h_7 fs u ht=>simp [oneT,ht] at h1
   case h_8=>cases hu
theorem cells_agg {t : TypeId} {v : Value} {base : Nat} (h1 : oneT P t = false) (h : Value.okWide P W .any base t v) {n : Nat} {u : U} (hu : tyU P n u t = true) : ∃ cs,v = .agg cs ∧ cs.size = P.cellsOf t:=by
 cases n with
 | zero=>simp [tyU] at hu
 | succ n =>
   unfold tyU at hu
   unfold Value.okWide at h
   split at hu
   case h_1 k k' ht=>simp [oneT,ht] at h1
   case h_2 k ht=>simp [oneT,ht] at h1
   case h_3 ht=>simp [oneT,ht] at h1
   case h_4 ht=>simp [oneT,ht] at h1
   case h_5 e v ht=>simp [oneT,ht] at h1
   case h_6 k e k' v ht=>rw [ht] at h; obtain ⟨cs,h1,h2,_⟩:=h; exact ⟨cs,h1,h2⟩
   case h_7 fs u ht=>rw [ht] at h; obtain ⟨cs,h1,h2,_⟩:=h; exact ⟨cs,h1,h2⟩
   case h_8=>cases hu
/-- One argument. -/
theorem arg_one {u : U} {t : TypeId} {v : Value} {d : DataW H} {ps : List MemPlace} {base : Nat} {sp : Nat → Bool} (h : argOK P u t = true) (hok : Value.okWide P W .any base t v) (hT : DataW.Trod enc P W 0 sp true t v d ps) :
   ∃ a : El u,DenV ρ (fun b=>b < W.heap.size) W (valU u a) v ∧ bulkU u a ≤ Rows.uptoBulk d ∧ RngU u a:=by
 simp only [argOK,Bool.and_eq_true,Nat.beq_eq,beq_iff_eq] at h
 obtain ⟨⟨⟨⟨h1,h2⟩,h3⟩,_⟩,_⟩:=h
 obtain ⟨n,hn⟩:=hT
 obtain ⟨a,q1,q2,q3⟩:=rdU _ _ _ h1 _ _ _ hn
 refine ⟨a,?_,q2,q3⟩
 cases ho : oneU u with
 | true =>
   rw [cells_one (x:=(d,ps)) (fuel:=n) (sp:=sp) (by rw [← h2,ho]) hok h1 ho] at q1
   obtain ⟨v',e1,e2⟩:=DenU.cell u a _ 0 q1 (by rcases u with _ | _ | _ | _ | _ | _ | _ <;> simp [sz,oneU] at *)
   simp only [List.getElem?_cons_zero,Option.some.injEq] at e1
   subst e1
   cases u <;> first | exact e2 | (simp [oneU] at ho)
 | false =>
   obtain ⟨cs,rfl,hsz⟩:=cells_agg (by rw [← h2,ho]) hok h1
   have hl : cs.toList.length = sz u:=by rw [Array.length_toList]; omega
   have:=denL_listU (ρ:=ρ) q1 (sz u) 0 (by omega) (by simpa [Value.cells] using (show 0 + sz u ≤ cs.toList.length by omega))
   rw [List.drop_zero,List.take_of_length_le (by simp only [Value.cells]; omega)] at this
   cases u <;> first | exact ⟨_,rfl,this⟩ | (simp [oneU] at ho)
/-- All arguments. -/
def Vals : List U → Type
 | []=>Unit
 | u :: us=>El u × Vals us
def argsV : (us : List U) → Vals us → List SV
 | [],_=>[]
 | u :: us,x=>valU u x.1 :: argsV us x.2
noncomputable def bulkV : (us : List U) → Vals us → Nat
 | [],_=>0
 | u :: us,x=>bulkU u x.1 + bulkV us x.2
def RngV : (us : List U) → Vals us → Prop
 | [],_=>True
 | u :: us,x=>RngU u x.1 ∧ RngV us x.2
def argsOK (P : Program) : List U → List TypeId → Bool
 | [],[]=>true
 | u :: us,t :: ts=>argOK P u t && argsOK P us ts
 | _,_=>false
theorem args_of {base : Nat} {sp : Nat → Bool} : ∀ (us : List U) (ts : List TypeId) (vs : List Value) (ds : List (DataW H)) (ps : List MemPlace),argsOK P us ts = true → (∀ (j : Nat) t v,ts[j]? = some t → vs[j]? = some v → Value.okWide P W .any base t v) →
   DataW.TrodAll enc P W 0 sp true ts vs ds ps → ∃ a : Vals us,vs.length = (argsV us a).length ∧ (∀ (i : Nat) (s : SV) (x : Value),(argsV us a)[i]? = some s → vs[i]? = some x → DenV ρ (fun b=>b < W.heap.size) W s x) ∧ bulkV us a ≤ Rows.uptoBulkAll ds ∧ RngV us a
 | [],[],vs,ds,ps,_,_,hT=>by
   obtain ⟨rfl,rfl,rfl⟩:=trodAll_nil hT
   exact ⟨(),rfl,fun i s x h=>by simp [argsV] at h,Nat.zero_le _,trivial⟩
 | [],_ :: _,_,_,_,h,_,_=>by simp [argsOK] at h
 | _ :: _,[],_,_,_,h,_,_=>by simp [argsOK] at h
 | u :: us,t :: ts,vs,ds,ps,h,hok,hT=>by
   simp only [argsOK,Bool.and_eq_true] at h
   obtain ⟨v,vs,d,ds,p,q,rfl,rfl,rfl,h0,hr⟩:=trodAll_cons hT
   obtain ⟨a,a1,a2,a3⟩:=arg_one (ρ:=ρ) h.1 (hok 0 t v rfl rfl) h0
   obtain ⟨b,b1,b2,b3,b4⟩:=args_of us ts vs ds q h.2 (fun j t v h1 h2=>hok (j + 1) t v h1 h2) hr
   refine ⟨(a,b),by simp [argsV,b1],fun i s x h1 h2=>?_,by simp only [bulkV,Rows.uptoBulkAll]; omega,a3,b4⟩
   match i with
   | 0=>simp only [argsV,List.getElem?_cons_zero,Option.some.injEq] at h1 h2; subst h1 h2; exact a1
   | i + 1=>exact b2 i s x (by simpa [argsV] using h1) (by simpa using h2)
theorem args_again (laid : laidOutB P = true) {W' : World} {sp' : Nat → Bool} : ∀ (us : List U) (ts : List TypeId) (vs : List Value) (ds : List (DataW H)) (ps : List MemPlace),argsOK P us ts = true →
   DataW.TrodAll enc P W 0 (fun _=>true) true ts vs ds ps → Below W.heap.size W W' → (∀ x ∈ ps,x.block < W.heap.size) → (∀ x ∈ ps,sp' x.block = true) → DataW.TrodAll enc P W' 0 sp' true ts vs ds ps
 | [],[],vs,ds,ps,_,hT,_,_,_=>by
   obtain ⟨rfl,rfl,rfl⟩:=trodAll_nil hT
   exact trodAll_mk0
 | [],_ :: _,_,_,_,h,_,_,_,_=>by simp [argsOK] at h
 | _ :: _,[],_,_,_,h,_,_,_,_=>by simp [argsOK] at h
 | u :: us,t :: ts,vs,ds,ps,h,hT,hb,hlt,hsp=>by
   simp only [argsOK,Bool.and_eq_true] at h
   obtain ⟨v,vs,d,ds,p,q,rfl,rfl,rfl,h0,hr⟩:=trodAll_cons hT
   have h1:=h.1
   simp only [argOK,Bool.and_eq_true,Nat.blt_eq] at h1
   exact trodAll_cons_mk (WideElems.Trod_stays laid h1.1.2 h1.2 h0 (fun x hx=>hb.same (hlt x (by simp [hx]))) (fun x hx=>hsp x (by simp [hx]))) (args_again laid us ts vs ds q h.2 hr hb (fun x hx=>hlt x (by simp [hx])) (fun x hx=>hsp x (by simp [hx])))
/-- A contract,as a call. -/
theorem Fn.calls {f : FuncId} {args : List SV} (hF : Fn P f args [] [] (vB true) []) (vals : Array Value) (hl : vals.toList.length = args.length)
   (hd : ∀ (i : Nat) (s : SV) (x : Value),args[i]? = some s → vals.toList[i]? = some x → DenV ρ (fun b=>b < W.heap.size) W s x) : Calls P f vals W fun e W'=>e = .returned (.bool true) ∧ Below W.heap.size W W':=by
 have h:=hF.2 ρ (fun _ _=>False) (fun b=>b < W.heap.size) W vals.toList (fun b h=>h) (fun c ch hc=>by simp [lookB] at hc) (fun c ch hc=>by simp [lookB] at hc) (fun c c' ch ch' b hc=>by simp [lookB] at hc) hl hd
 rw [Array.toArray_toList] at h
 refine h.mono ?_
 rintro e W' ⟨x,ρ',F',rfl,hfr,-,I',-,-,-,-,-,hx⟩
 rw [show x = .bool true from hx]
 exact ⟨rfl,hfr.below (Nat.le_refl _) (by rintro i _ ⟨c,ch,hc,_⟩; simp [lookB] at hc)⟩
end
theorem own_knob : ownKnob Tryz.prog.godebug = none:=by kernel_rfl
theorem laid_ok : laidOutB Tryz.prog = true:=by kernel_rfl
set_option maxRecDepth 100000 in
/-- A law's function does as its row says. -/
theorem row_of {H : Type} {enc : TypeId × Value → H} {W : World} {args : Array Value} {ds gs : List (DataW H)} {before : List MemPlace} {base : Nat} (f : FuncId) (fn : Func) (s : ChangeSpec) (us : List U) (n : Nat)
   (hres : fn.resultTypes = #[4]) (hvars : s.vars = []) (hty : argsOK Tryz.prog us fn.params.toList = true)
   (hfn : ∀ ds : List (DataW H),ds.length = fn.params.toList.length → (s.fn H ds).results = [.lit (.bool true)] ∧ (s.fn H ds).vars = [] ∧ (s.fn H ds).args = ds)
   (hval : ∀ (j : Nat) t v,fn.params[j]? = some t → args[j]? = some v → Value.okWide Tryz.prog W .any base t v)
   (hW : DataW.Whole enc Tryz.prog fn.params.toList s.vars false W args.toList ds gs before) (hk : Rows.uptoBulkAll (ds ++ gs) ≤ n)
   (hF : ∀ a : Vals us,bulkV us a ≤ n → RngV us a → Fn Tryz.prog f (argsV us a) [] [] (vB true) []) :
   Calls Tryz.prog f args W fun e W'=>∃ v,e = .returned v ∧ s.post enc Tryz.prog fn false true false false W args v W':=by
 have hW':=hW
 have hlt:=hW.lt
 obtain ⟨p,q,hA,hV,rfl,hfz,hnd⟩:=hW
 rw [hvars] at hV
 obtain ⟨rfl,rfl⟩:=trodVars_none hV
 simp only [List.append_nil] at hW' hk hlt
 obtain ⟨a,a1,a2,a3,a4⟩:=args_of (ρ:=fun _=>⟨0,none,0,0⟩) us fn.params.toList args.toList ds p hty (fun j t v h1 h2=>hval j t v (by simpa using h1) (by simpa using h2)) hA
 have hlen : ds.length = fn.params.toList.length:=by
   have : ∀ (ts : List TypeId) (vs : List Value) (ds : List (DataW H)) (ps : List MemPlace),DataW.TrodAll enc Tryz.prog W 0 (fun _=>true) true ts vs ds ps → ds.length = ts.length:=fun ts=>by
     induction ts with
     | nil=>intro vs ds ps h; obtain ⟨_,rfl,_⟩:=trodAll_nil h; rfl
     | cons t ts ih=>intro vs ds ps h; obtain ⟨v,vs,d,ds,p,q,rfl,rfl,rfl,h0,hr⟩:=trodAll_cons h; simp [ih _ _ _ hr]
   exact this _ _ _ _ hA
 obtain ⟨r1,r2,r3⟩:=hfn ds hlen
 refine ((hF a (by omega) a4).calls args a1 a2).mono fun e W' ⟨he,hb⟩=>?_
 subst he
 refine ⟨_,rfl,post_of_below (pa:=p) (pv:=[]) hW' ?_ ?_ ?_ (by simp) hb ?_⟩
 · intro b sp hd
   rw [List.append_nil,r1,hres]
   exact trodAll_cons_mk (shut_bool Tryz.underlying4 _) trodAll_mk0
 · intro sp hsp
   rw [List.append_nil,r3]
   exact args_again laid_ok us _ _ _ _ hty hA hb (fun x hx=>hlt x (by simpa using hx)) (fun x hx=>hsp x (by simpa using hx))
 · intro sp hsp
   rw [List.append_nil,r2,hvars]
   rfl
 · exact Go.RowKit.ok_one hres rfl (okWide_bool_mk Tryz.underlying4 _)
end Go.Proofs.YteoamepgonpdlaaGreat
/-!
  Facts of the whole program, each proved by itself, for the rows of a seat with many functions.
-/
namespace Go.Proofs.YteoamepgonpdlaaGreat
set_option maxRecDepth 100000
open Go.ChangeShapes Go.WideShapes Go.ChangeAt Go.RowKit
theorem band2 {a b : Bool} (h : a = true) (k : b = true) : (a && b) = true := by rw [h,k]; rfl
/-- A row with the defaults. -/
def row0 : OpenClaim := { program := "",sum := "",func := "",spec := "" }
theorem fcLaid : laidOutB Tryz.prog = true := by kernel_rfl
theorem fcMaps : mapsRowed Tryz.prog = true := by kernel_rfl
theorem fcPlain : (row0.plainKeys == Tryz.prog.plainKeys) = true := by kernel_rfl
theorem fcEnter : Tryz.prog.mayEnter = true := by kernel_rfl
theorem fcLift : (row0.lifted == Tryz.prog.liftsFinal) = true := by kernel_rfl
theorem fcMake : (Tryz.prog.make == some row0.make) = true := by kernel_rfl
end Go.Proofs.YteoamepgonpdlaaGreat
/-!
  DERIVED: THE SHELF's CONTRACTS AT THIS DUMP, IN PLAIN WORDS (tools/lay-plain.mjs out of 'YteoamepgonpdlaaGreatLays.lean', which tools/lay-shelf.mjs wrote): THE SAME DECLARATIONS UNDER THE SAME NAMES: 'import', 'namespace', 'open', 'def', 'theorem' AND NOTHING ELSE: no command of the shelf's: FOR A HAND-IN. Each laying: the table of numbers ('.._ren') and one theorem, a field a fact of the dump's own or the kernel's comparison; each contract: ONE APPLICATION.
-/
namespace Go.Proofs
open Go.Shelf
def Tryz.keys104_ren : Go.Shelf.Ren:=⟨fun | 7=>104 | 10=>130 | n=>n,fun | 23=>97 | 26=>9 | 3=>127 | 28=>183 | 0=>0 | 27=>182 | 33=>166 | 4=>4 | n=>n,fun | n=>n⟩
theorem Tryz.keys104 : Go.Proofs.SlLaysZ.n7 Tryz.prog Tryz.keys104_ren:={
 mixed:=by kernel_rfl
 f7:=⟨Tryz.f104.name,by decide,Tryz.func104.trans (congrArg some (by kernel_rfl))⟩
 f10:=⟨Tryz.f130.name,by decide,Tryz.func130.trans (congrArg some (by kernel_rfl))⟩
 t0:=Tryz.underlying0
 a0:=Tryz.isAgg0
 z0:=Tryz.sizeOf0
 v0:=Tryz.zeroValue0
 t4:=Tryz.underlying4
 a4:=Tryz.isAgg4
 z4:=Tryz.sizeOf4
 v4:=Tryz.zeroValue4
 t23:=Tryz.underlying97
 a23:=Tryz.isAgg97
 z23:=Tryz.sizeOf97
 v23:=Tryz.zeroValue97
 t26:=Tryz.underlying9
 a26:=Tryz.isAgg9
 z26:=Tryz.sizeOf9
 v26:=Tryz.zeroValue9
 t27:=Tryz.underlying182
 a27:=Tryz.isAgg182
 z27:=Tryz.sizeOf182
 v27:=Tryz.zeroValue182
 t28:=Tryz.underlying183
 a28:=Tryz.isAgg183
 z28:=Tryz.sizeOf183
 v28:=Tryz.zeroValue183
 t33:=Tryz.underlying166
 a33:=Tryz.isAgg166
 z33:=Tryz.sizeOf166
 v33:=Tryz.zeroValue166 }
def Tryz.sorted103_ren : Go.Shelf.Ren:=⟨fun | 6=>103 | 8=>128 | 9=>129 | 11=>147 | 13=>149 | 12=>148 | 23=>163 | 24=>164 | 14=>154 | 15=>155 | 16=>156 | 17=>157 | 18=>158 | 19=>159 | 20=>160 | 21=>161 | 22=>162 | 25=>167 | 26=>168 | 27=>169 | 28=>170 | 29=>171 | 30=>172 | 31=>174 | n=>n,fun | 26=>9 | 28=>183 | 24=>102 | 0=>0 | 3=>3 | 37=>236 | 48=>248 | 50=>250 | 4=>4 | 40=>241 | 39=>240 | 45=>71 | 5=>5 | 9=>9 | 51=>253 | 55=>257 | 57=>259 | 58=>142 | 33=>166 | n=>n,fun | n=>n⟩
theorem Tryz.sorted103 : Go.Proofs.SlLaysZ.n6 Tryz.prog Tryz.sorted103_ren:={
 mixed:=by kernel_rfl
 f6:=⟨Tryz.f103.name,by decide,Tryz.func103.trans (congrArg some (by kernel_rfl))⟩
 f8:=⟨Tryz.f128.name,by decide,Tryz.func128.trans (congrArg some (by kernel_rfl))⟩
 f11:=⟨Tryz.f147.name,by decide,Tryz.func147.trans (congrArg some (by kernel_rfl))⟩
 t0:=Tryz.underlying0
 a0:=Tryz.isAgg0
 z0:=Tryz.sizeOf0
 v0:=Tryz.zeroValue0
 t24:=Tryz.underlying102
 a24:=Tryz.isAgg102
 z24:=Tryz.sizeOf102
 v24:=Tryz.zeroValue102
 t26:=Tryz.underlying9
 a26:=Tryz.isAgg9
 z26:=Tryz.sizeOf9
 v26:=Tryz.zeroValue9
 t28:=Tryz.underlying183
 a28:=Tryz.isAgg183
 z28:=Tryz.sizeOf183
 v28:=Tryz.zeroValue183
 i26:=by kernel_rfl }
def Tryz.sort129_ren : Go.Shelf.Ren:=⟨fun | 6=>129 | 8=>149 | 9=>148 | 19=>163 | 20=>164 | 21=>154 | 22=>155 | 23=>156 | 24=>157 | 25=>158 | 26=>159 | 27=>160 | 28=>161 | 29=>162 | 36=>167 | 31=>168 | 32=>169 | 37=>170 | 38=>171 | 39=>172 | 41=>174 | n=>n,fun | 27=>102 | 29=>9 | 3=>3 | 32=>236 | 26=>102 | 0=>0 | 44=>248 | 46=>250 | 4=>4 | 36=>241 | 35=>240 | 41=>71 | 5=>5 | 9=>9 | 53=>253 | 57=>257 | 63=>259 | 64=>142 | n=>n,fun | n=>n⟩
theorem Tryz.sort129 : Go.Proofs.SlLaysM.n6 Tryz.prog Tryz.sort129_ren:={
 mixed:=by kernel_rfl
 f6:=⟨Tryz.f129.name,by decide,Tryz.func129.trans (congrArg some (by kernel_rfl))⟩
 f8:=Tryz.func149.trans (congrArg some (by kernel_rfl))
 f9:=⟨Tryz.f148.name,by decide,Tryz.func148.trans (congrArg some (by kernel_rfl))⟩
 f19:=Tryz.func163.trans (congrArg some (by kernel_rfl))
 f20:=Tryz.func164.trans (congrArg some (by kernel_rfl))
 f21:=⟨Tryz.f154.name,by decide,Tryz.func154.trans (congrArg some (by kernel_rfl))⟩
 f22:=⟨Tryz.f155.name,by decide,Tryz.func155.trans (congrArg some (by kernel_rfl))⟩
 f23:=⟨Tryz.f156.name,by decide,Tryz.func156.trans (congrArg some (by kernel_rfl))⟩
 f24:=⟨Tryz.f157.name,by decide,Tryz.func157.trans (congrArg some (by kernel_rfl))⟩
 f25:=⟨Tryz.f158.name,by decide,Tryz.func158.trans (congrArg some (by kernel_rfl))⟩
 f26:=⟨Tryz.f159.name,by decide,Tryz.func159.trans (congrArg some (by kernel_rfl))⟩
 f27:=⟨Tryz.f160.name,by decide,Tryz.func160.trans (congrArg some (by kernel_rfl))⟩
 f28:=⟨Tryz.f161.name,by decide,Tryz.func161.trans (congrArg some (by kernel_rfl))⟩
 f29:=⟨Tryz.f162.name,by decide,Tryz.func162.trans (congrArg some (by kernel_rfl))⟩
 f31:=Tryz.func168.trans (congrArg some (by kernel_rfl))
 f32:=Tryz.func169.trans (congrArg some (by kernel_rfl))
 f36:=⟨Tryz.f167.name,by decide,Tryz.func167.trans (congrArg some (by kernel_rfl))⟩
 f37:=⟨Tryz.f170.name,by decide,Tryz.func170.trans (congrArg some (by kernel_rfl))⟩
 f38:=⟨Tryz.f171.name,by decide,Tryz.func171.trans (congrArg some (by kernel_rfl))⟩
 f39:=⟨Tryz.f172.name,by decide,Tryz.func172.trans (congrArg some (by kernel_rfl))⟩
 f41:=⟨Tryz.f174.name,by decide,Tryz.func174.trans (congrArg some (by kernel_rfl))⟩
 t0:=Tryz.underlying0
 a0:=Tryz.isAgg0
 z0:=Tryz.sizeOf0
 v0:=Tryz.zeroValue0
 t3:=Tryz.underlying3
 a3:=Tryz.isAgg3
 z3:=Tryz.sizeOf3
 v3:=Tryz.zeroValue3
 t4:=Tryz.underlying4
 a4:=Tryz.isAgg4
 z4:=Tryz.sizeOf4
 v4:=Tryz.zeroValue4
 t5:=Tryz.underlying5
 a5:=Tryz.isAgg5
 z5:=Tryz.sizeOf5
 v5:=Tryz.zeroValue5
 t9:=Tryz.underlying9
 a9:=Tryz.isAgg9
 z9:=Tryz.sizeOf9
 v9:=Tryz.zeroValue9
 t26:=Tryz.underlying102
 a26:=Tryz.isAgg102
 z26:=Tryz.sizeOf102
 v26:=Tryz.zeroValue102
 t27:=Tryz.underlying102
 a27:=Tryz.isAgg102
 z27:=Tryz.sizeOf102
 v27:=Tryz.zeroValue102
 t29:=Tryz.underlying9
 a29:=Tryz.isAgg9
 z29:=Tryz.sizeOf9
 v29:=Tryz.zeroValue9
 t32:=Tryz.underlying236
 a32:=Tryz.isAgg236
 z32:=Tryz.sizeOf236
 v32:=Tryz.zeroValue236
 t35:=Tryz.underlying240
 a35:=Tryz.isAgg240
 z35:=Tryz.sizeOf240
 v35:=Tryz.zeroValue240
 t36:=Tryz.underlying241
 a36:=Tryz.isAgg241
 z36:=Tryz.sizeOf241
 v36:=Tryz.zeroValue241
 t41:=Tryz.underlying71
 a41:=Tryz.isAgg71
 z41:=Tryz.sizeOf71
 v41:=Tryz.zeroValue71
 t44:=Tryz.underlying248
 a44:=Tryz.isAgg248
 z44:=Tryz.sizeOf248
 v44:=Tryz.zeroValue248
 t46:=Tryz.underlying250
 a46:=Tryz.isAgg250
 z46:=Tryz.sizeOf250
 v46:=Tryz.zeroValue250
 t53:=Tryz.underlying253
 a53:=Tryz.isAgg253
 z53:=Tryz.sizeOf253
 v53:=Tryz.zeroValue253
 t57:=Tryz.underlying257
 a57:=Tryz.isAgg257
 z57:=Tryz.sizeOf257
 v57:=Tryz.zeroValue257
 t63:=Tryz.underlying259
 a63:=Tryz.isAgg259
 z63:=Tryz.sizeOf259
 v63:=Tryz.zeroValue259
 t64:=Tryz.underlying142
 a64:=Tryz.isAgg142
 z64:=Tryz.sizeOf142
 v64:=Tryz.zeroValue142 }
end Go.Proofs
/-!
  Contracts that make something known (an address, for example): calls, regions.
-/
namespace Go.Proofs.YteoamepgonpdlaaGreat
set_option linter.unusedVariables false
set_option linter.unusedSimpArgs false
open Go.RowKit
/-- As Fn; what is made known: of X. -/
def FnX (P : Program) (f : FuncId) (args : List SV) (Bi : BL) (nw : List Nat) {X : Type} (res : X → SV) (Bo : X → BL) : Prop :=
 callable P f = true ∧ ∀ (ρ : Nat → Pl) (F : Nat → Nat → Prop) (I : Nat → Prop) (w : World) (vals : List Value),
   (∀ b,I b → b < w.heap.size) → (∀ c ch,lookB Bi c = some ch → Holds ρ I (F c) w (ρ c) ch) → (∀ c ch,lookB Bi c = some ch → ∀ b,F c b → b < w.heap.size ∧ ¬ I b) →
   (∀ c c' ch ch' b,lookB Bi c = some ch → lookB Bi c' = some ch' → c ≠ c' → F c b → ¬ F c' b) →
   vals.length = args.length → (∀ (i : Nat) (v : SV) (x : Value),args[i]? = some v → vals[i]? = some x → DenV ρ I w v x) →
   Calls P f vals.toArray w fun e w'=>∃ (g : X) (x : Value) (ρ' : Nat → Pl) (F' : Nat → Nat → Prop),e = .returned x ∧ Fr (fun b=>∃ c ch,lookB Bi c = some ch ∧ F c b) w w' ∧ (∀ c,c ∉ nw → ρ' c = ρ c) ∧
     ∃ I' : Nat → Prop,Ext I w I' w' ∧ (∀ b,I' b → b < w'.heap.size ∧ (I b ∨ (∃ c ch,lookB Bi c = some ch ∧ F c b) ∨ w.heap.size ≤ b)) ∧
     (∀ c ch,lookB (Bo g) c = some ch → Holds ρ' I' (F' c) w' (ρ' c) ch) ∧
     (∀ c ch,lookB (Bo g) c = some ch → ∀ b,F' c b → b < w'.heap.size ∧ ¬ I' b ∧ ((∃ c0 ch0,lookB Bi c0 = some ch0 ∧ F c0 b) ∨ w.heap.size ≤ b)) ∧
     (∀ c c' ch ch' b,lookB (Bo g) c = some ch → lookB (Bo g) c' = some ch' → c ≠ c' → F' c b → ¬ F' c' b) ∧ DenV ρ' I' w' (res g) x
theorem Fn.x {P : Program} {f : FuncId} {args : List SV} {Bi : BL} {nw : List Nat} {res : SV} {Bo : BL} (h : Fn P f args Bi nw res Bo) : FnX P f args Bi nw (fun _ : Unit=>res) (fun _=>Bo) :=
 ⟨h.1,fun ρ F I w vals a1 a2 a3 a4 a5 a6=>(h.2 ρ F I w vals a1 a2 a3 a4 a5 a6).mono fun e w' q=>⟨(),q⟩⟩
section
variable {P : Program} {tt : Tr} {N : Nat} {ids : List Nat} {o : Oper} {K : KL} {B : BL}
/-- Behind a call: the state is as its contract says. -/
theorem Sat.back {Bi : BL} {nw : List Nat} {r : SV} {Bo : BL} (hsub : subB B Bi) (hfr0 : allFresh ids K B nw = true) (hout : outOK Bi nw Bo = true) {C : Ctx} {a : Act} {w w' : World} {ρ ρ' : Nat → Pl} {F F' : Nat → Nat → Prop} {I' : Nat → Prop} {x : Value} {dst : Option Nat}
   (hn : a.tmps.size = N) (hd : a.defers = C.ds.map markD) (hM : Mem ids C B ρ F w) (hS : Slots K ρ (Imm C B F w) a w) (hlt : ∀ d,dst = some d → d < N)
   (hfr : Fr (fun b=>∃ c ch,lookB Bi c = some ch ∧ F c b) w w') (hρ : ∀ c,c ∉ nw → ρ' c = ρ c) (he2 : ∀ b,I' b → b < w'.heap.size ∧ (Imm C B F w b ∨ (∃ c ch,lookB Bi c = some ch ∧ F c b) ∨ w.heap.size ≤ b))
   (hH : ∀ c ch,lookB Bo c = some ch → Holds ρ' I' (F' c) w' (ρ' c) ch) (hO : ∀ c ch,lookB Bo c = some ch → ∀ b,F' c b → b < w'.heap.size ∧ ¬ I' b ∧ ((∃ c0 ch0,lookB Bi c0 = some ch0 ∧ F c0 b) ∨ w.heap.size ≤ b))
   (hDj : ∀ c c' ch ch' b,lookB Bo c = some ch → lookB Bo c' = some ch' → c ≠ c' → F' c b → ¬ F' c' b) (hden : DenV ρ' I' w' r x) : Sat N ids C (putK dst r K) (applyB (effB Bi Bo) B) (a.put dst x) w':=by
 have hBi : ∀ {c ch},lookB Bi c = some ch → lookB B c = some ch:=fun {c ch} hc=>subB_get hsub hc
 have hfresh : ∀ c ∈ nw,(∀ s,(look K s).has c = false) ∧ lookB B c = none ∧ (∀ d ch,lookB B d = some ch → ch.has c = false) ∧ c ∉ ids:=fun c hc=>fresh_of (allFresh_get hfr0 c hc)
 have hlk : ∀ c,lookB (applyB (effB Bi Bo) B) c = (match lookB Bo c with | some ch=>some ch | none=>if c ∈ keysB Bi then none else lookB B c):=applyB_all Bi Bi nw Bo B hout
 have hpart : ∀ c ch,lookB (applyB (effB Bi Bo) B) c = some ch → lookB Bo c = some ch ∨ (lookB Bo c = none ∧ c ∉ keysB Bi ∧ lookB B c = some ch):=fun c ch hc=>by
   rw [hlk] at hc
   cases hb : lookB Bo c with
   | some ch'=>rw [hb] at hc; exact .inl hc
   | none =>
     rw [hb] at hc
     simp only at hc
     split at hc
     · cases hc
     · rename_i hk; exact .inr ⟨rfl,hk,hc⟩
 let F2 : Nat → Nat → Prop:=fun c=>if c ∈ keysB Bo then F' c else F c
 have hF2 : ∀ c ch,lookB Bo c = some ch → F2 c = F' c:=fun c ch hc=>if_pos (keysB_mem.2 ⟨ch,hc⟩)
 have hF2' : ∀ c,lookB Bo c = none → F2 c = F c:=fun c hc=>if_neg (fun hk=>by
   obtain ⟨ch,h⟩:=keysB_mem.1 hk
   rw [hc] at h; cases h)
 have hM1 : ∀ c ch,lookB Bo c = some ch → c ∈ keysB Bi ∨ c ∈ nw:=fun c ch hc=>outOK_get hout (keysB_mem.2 ⟨ch,hc⟩)
 have hnM : ∀ c ch,lookB (applyB (effB Bi Bo) B) c = some ch → (c ∈ keysB Bi ∨ c ∈ nw) → lookB Bo c = some ch:=fun c ch hc hM'=>by
   rcases hpart c ch hc with h | ⟨h1,h2,h3⟩
   · exact h
   · rcases hM' with h | h
     · exact absurd h h2
     · rw [(hfresh c h).2.1] at h3; cases h3
 have hI2 : Ext I' w' (Imm C (applyB (effB Bi Bo) B) F2 w') w':=fun b hb=>by
   obtain ⟨e1,e2⟩:=he2 b hb
   refine ⟨⟨e1,?_,fun c ch hc hF=>?_⟩,rfl⟩
   · rcases e2 with e2 | ⟨c,ch,e2,e3⟩ | e2
     · exact e2.2.1
     · exact .inr ((hM.own c ch (hBi e2) b e3).2)
     · exact .inr (.inr (hM.fresh e2))
   · rcases hpart c ch hc with h | ⟨h1,h2,h3⟩
     · rw [hF2 c ch h] at hF
       exact (hO c ch h b hF).2.1 hb
     · rw [hF2' c h1] at hF
       rcases e2 with e2 | ⟨d,ch',e2,e3⟩ | e2
       · exact e2.2.2 c ch h3 hF
       · exact hM.disj d c ch' ch b (hBi e2) h3 (fun e=>h2 (e ▸ keysB_mem.2 ⟨ch',e2⟩)) e3 hF
       · have:=(hM.own c ch h3 b hF).1; omega
 obtain ⟨hM',hE⟩:=hM.step (B':=applyB (effB Bi Bo) B) (ρ':=ρ') (F':=F2) (w':=w') (fun c=>c ∈ keysB Bi ∨ c ∈ nw) (fun c=>c ∈ nw)
   (hfr.mono fun b _ ⟨c,ch,h1,h2⟩=>⟨c,ch,hBi h1,.inl (keysB_mem.2 ⟨ch,h1⟩),h2⟩)
   (fun c ch hc hn=>by
     rcases hpart c ch hc with h | ⟨_,_,h3⟩
     · exact absurd (hM1 c ch h) hn
     · exact h3)
   hρ
   (fun c hn=>by
     cases hb : lookB Bo c with
     | none=>exact hF2' c hb
     | some ch=>exact absurd (hM1 c ch hb) hn)
   (fun c hc hn=>(hfresh c hn).2.2.2 hc) (fun c h=>.inr h)
   (fun c ch hc _ d hd hn=>by rw [(hfresh d hn).2.2.1 c ch hc] at hd; cases hd)
   (fun c ch hc hM' _=>by
     have hb:=hnM c ch hc hM'
     rw [hF2 c ch hb]
     exact Holds.stable hI2 (fun _ _=>rfl) (Nat.le_refl _) ch (fun _ _=>rfl) (hH c ch hb))
   (fun c ch hc hM' b hb=>by
     have hbo:=hnM c ch hc hM'
     rw [hF2 c ch hbo] at hb
     obtain ⟨e1,_,e3⟩:=hO c ch hbo b hb
     refine ⟨e1,e3.imp (fun ⟨c0,ch0,h1,h2⟩=>⟨c0,ch0,hBi h1,.inl (keysB_mem.2 ⟨ch0,h1⟩),h2⟩) id⟩)
   (fun c c' ch ch' b hc hc' hM1 hM2 hne hb hb'=>by
     have h1:=hnM c ch hc hM1
     have h2:=hnM c' ch' hc' hM2
     rw [hF2 c ch h1] at hb
     rw [hF2 c' ch' h2] at hb'
     exact hDj c c' ch ch' b h1 h2 hne hb hb')
 refine ⟨put_size.trans hn,put_defers.trans hd,ρ',F2,hM',(hS.mono hE fun s d hd=>hρ d fun hn=>by rw [(hfresh d hn).1 s] at hd; cases hd).putO (fun e he=>by rw [hn]; exact hlt e he) (DenV.mono hI2 _ _ (fun _ _=>rfl) hden)⟩
theorem opX_call {f : FuncId} {args : List SV}
   (hex : ∀ (ρ : Nat → Pl) (I : Nat → Prop) (a : Act) (w : World),Slots K ρ I a w → ∃ vals : List Value,(callable P f = true → (execOp a.eval o).run P w = .ok (.enter f vals.toArray) w) ∧ vals.length = args.length ∧ ∀ (i : Nat) (v : SV) (x : Value),args[i]? = some v → vals[i]? = some x → DenV ρ I w v x)
   {X : Type} {Bi : BL} {nw : List Nat} {res : X → SV} {Bo : X → BL} (hfx : FnX P f args Bi nw res Bo) (hsub : subB B Bi) (hfr0 : allFresh ids K B nw = true) (hok : ∀ g,(allFresh ids K B nw && outOK Bi nw (Bo g)) = true)
   {C : Ctx} {a : Act} {w : World} (hs : Sat N ids C K B a w) (hlt : ∀ d,o.dst = some d → d < N) {Kn : Act → World → Prop} {Q : Exit → Act → World → Prop} (hK : ∀ g a' w',Sat N ids C (putK o.dst (res g) K) (applyB (effB Bi (Bo g)) B) a' w' → Kn a' w') : o.wp P a w Kn Q:=by
 obtain ⟨hcall,hfn⟩:=hfx
 obtain ⟨hn,hd,ρ,F,hM,hS⟩:=hs
 have hBi : ∀ {c ch},lookB Bi c = some ch → lookB B c = some ch:=fun {c ch} hc=>subB_get hsub hc
 obtain ⟨vals,hrun,hvl,hvd⟩:=hex ρ _ a w hS
 have hc:=hfn ρ F (Imm C B F w) w vals (fun b hb=>hb.1) (fun c ch hc=>hM.holds c ch (hBi hc)) (fun c ch hc b hb=>⟨(hM.own c ch (hBi hc) b hb).1,fun hI=>hI.2.2 c ch (hBi hc) hb⟩)
   (fun c c' ch ch' b h1 h2=>hM.disj c c' ch ch' b (hBi h1) (hBi h2)) hvl hvd
 unfold Oper.wp
 rw [hrun hcall,Oper.upon_enter]
 refine hc.mono ?_
 rintro e w' ⟨g,x,ρ',F',rfl,hfr,hρ,I',he1,he2,hH,hO,hDj,hden⟩
 exact hK g _ _ (Sat.back hsub hfr0 (Bool.and_eq_true _ _ ▸ hok g).2 hn hd hM hS hlt hfr hρ he2 hH hO hDj hden)
theorem FnX.of (hP : TblOK P tt) {f : FuncId} {fn : Func} {c : Code} (stops : List Nat) (args : List SV) (Bi : BL) (nw : List Nat) {X : Type} (res : X → SV) (Bo : X → BL) (hf : P.funcs[f]? = some fn) (hb : fn.body = some c) (hn : fn.ntmps = N) (hcall : callable P f = true) (hc : codeOK P N c = true) (hargs : Nat.ble args.length N = true) (hD : DrawOK P tt N (keysB Bi)) {rs : List ResultVar} (hrs : fn.results.toList = rs)
   (h : vc P tt N (keysB Bi) stops c (argsK 0 args) Bi (fun e K B=>∃ g,RetQ tt (keysB Bi) nw rs (res g) (Bo g) e K B)) : FnX P f args Bi nw res Bo:=by
 refine ⟨hcall,?_⟩
 intro ρ F I w vals hI hH hF hdj hlen hden
 have hargs:=Nat.le_of_ble_eq_true hargs
 refine in_calls (r:=none) (n:=0) (callsIn_of_wp_marks hf hb trivial ?_)
 let C : Ctx:=⟨w,I,fun b=>∃ c ch,lookB Bi c = some ch ∧ F c b,ρ,[]⟩
 have hImm : Ext I w (Imm C Bi F w) w:=fun b hb=>⟨⟨hI b hb,.inl hb,fun c ch hc hFb=>(hF c ch hc b hFb).2 hb⟩,rfl⟩
 have hM : Mem (keysB Bi) C Bi ρ F w:=⟨Fr.refl _ _,fun c ch hc=>Holds.stable hImm (fun _ _=>rfl) (Nat.le_refl _) ch (fun _ _=>rfl) (hH c ch hc),fun c ch hc b hb=>⟨(hF c ch hc b hb).1,.inl ⟨c,ch,hc,hb⟩⟩,hdj,fun c _=>rfl,List.nodup_nil,fun b hb=>hb.elim (hI b) fun ⟨c,ch,hc,hF'⟩=>(hF c ch hc b hF').1,fun D hD=>by cases hD⟩
 refine vc_sound hP hD stops c _ _ _ hc h none (fun _=>rfl) C _ ?_ _ w ⟨by simp [hlen,hn]; omega,rfl,ρ,F,hM,fun s=>?_⟩
 · intro e K' B' ds _ he a' w' hs'
   obtain ⟨g,he⟩:=he
   cases e with
   | ex i=>exact he.elim
   | _ =>
     obtain ⟨K2,B2,r,hle,hr,hp,hsub,ham⟩:=he
     refine leave_sat hs' fun w' hs'=>?_
     obtain ⟨hn2,hd2,ρ',F',hM',hS'⟩:=hle N C _ w' hs'
     obtain ⟨vs,hrun,hvs⟩ : ∃ vs : List Value,(rs.mapM (resV a'.tmps)).run P w' = .ok vs w' ∧ DenCL ρ' (Imm C B2 F' w') w' r vs:=run_res hP hM' hS' rs r hr
     have hres : ∃ x,(results fn a'.tmps).run P w' = .ok x w' ∧ DenV ρ' (Imm C B2 F' w') w' (packR r) x:=by
       have h1 : fn.results = rs.toArray:=by rw [← hrs]
       have h2 : (fn.results.mapM (resV a'.tmps)).run P w' = .ok (List.toArray vs) w':=by
         rw [h1,List.mapM_toArray]
         simp [hrun]
       have h3 : results fn a'.tmps = (do let vs ← fn.results.mapM (resV a'.tmps); pure (if h : vs.size = 1 then vs[0] else .tuple vs)):=rfl
       rw [h3]
       match r,vs,hvs,h2 with
       | [],_,e,h2=>rw [show _ = [] from e] at h2; exact ⟨.tuple #[],by simp [h2],[],rfl,rfl⟩
       | [x],_,⟨v,s,e,hv,hs⟩,h2 =>
         have hs : s = []:=hs
         subst hs e
         exact ⟨v,by simp [h2],hv⟩
       | x :: y :: r,_,⟨v,s,e,hv,v2,s2,e2,hv2,hs2⟩,h2 =>
         subst e2 e
         exact ⟨.tuple (List.toArray (v :: v2 :: s2)),by simp [h2],_,rfl,v,_,rfl,hv,v2,s2,rfl,hv2,hs2⟩
     obtain ⟨x,hx,hxd⟩:=hres
     have hxd:=leV_den hp hxd
     simp only [Bool.and_eq_true] at ham
     let ρ2 : Nat → Pl:=fun c=>if c ∈ nw then ρ' c else ρ c
     have hρ2 : ∀ c,c ∈ keysB Bi ++ nw → ρ2 c = ρ' c:=fun c hc=>by
       show (if c ∈ nw then ρ' c else ρ c) = ρ' c
       split
       · rfl
       · rename_i hn
         rcases List.mem_append.1 hc with h | h
         · exact (hM'.keep c h).symm
         · exact absurd h hn
     refine ⟨x,hx,g,x,ρ2,F',rfl,hM'.fr,fun c hc=>if_neg hc,Imm C B2 F' w',?_,fun b hb=>⟨hb.1,?_⟩,?_,?_,?_,?_⟩
     · intro b hb
       have hnF : ¬ C.F0 b:=fun ⟨c,ch,h1,h2⟩=>(hF c ch h1 b h2).2 hb
       refine ⟨⟨Nat.lt_of_lt_of_le (hI b hb) hM'.fr.size,.inl hb,fun c ch hc hFb=>?_⟩,hM'.fr.block b (hI b hb) hnF⟩
       rcases (hM'.own c ch hc b hFb).2 with h | h
       · exact hnF h
       · have:=hI b hb; exact absurd h.1 (Nat.not_le.2 this)
     · rcases hb.2.1 with h | h | h
       · exact .inl h
       · exact .inr (.inl h)
       · exact .inr (.inr h.1)
     · intro c ch hc
       have hk : c ∈ keysB Bi ++ nw:=by
         have:=List.all_eq_true.1 ham.2 c (keysB_mem.2 ⟨ch,hc⟩)
         simpa only [List.contains_iff_mem] using this
       rw [hρ2 c hk]
       exact Holds.stable (Ext.refl _ _) (fun _ _=>rfl) (Nat.le_refl _) ch (fun d hd=>hρ2 d (Ch.among_has (amongB_get ham.1.2 hc) hd)) (hM'.holds c ch (subB_get hsub hc))
     · intro c ch hc b hb
       have hc':=subB_get hsub hc
       exact ⟨(hM'.own c ch hc' b hb).1,fun hi=>hi.2.2 c ch hc' hb,(hM'.own c ch hc' b hb).2.imp id fun x=>x.1⟩
     · exact fun c c' ch ch' b h1 h2=>hM'.disj c c' ch ch' b (subB_get hsub h1) (subB_get hsub h2)
     · exact DenV.mono (Ext.refl _ _) (res g) x (fun c hc=>hρ2 c (SV.among_has ham.1.1 hc)) hxd
 · rw [look_argsK]
   simp only [Nat.zero_le,if_true,Nat.sub_zero]
   cases hs : args[s]? with
   | none=>trivial
   | some v =>
     have hlt : s < vals.length:=by rw [hlen]; exact (List.getElem?_eq_some_iff.1 hs).1
     simp only [Option.getD_some]
     have hx : vals[s]? = some vals[s]:=List.getElem?_eq_getElem hlt
     have:=DenV.mono hImm v _ (fun _ _=>rfl) (hden s v _ hs hx)
     simpa [Array.getElem?_append,hlt,hx] using this
/-! ### regions -/
def callOf (K : KL) (o : Oper) : Option (FuncId × List SV):=match o.op with
 | .call c=>match c.callee with
   | .value (.func f)=>some (f,c.args.toList.map (opv K))
   | .value (.tmp t)=>match look K t with
     | .c (.one (.clo f l))=>some (f,c.args.toList.map (opv K) ++ capV l)
     | _=>none
   | _=>none
 | _=>none
def vcCallX (P : Program) (f : FuncId) (args : List SV) (ids : List Nat) (K : KL) (B : BL) (k : SV → Eff → Prop) : Prop :=
 ∃ (X : Type) (Bi : BL) (nw : List Nat) (res : X → SV) (Bo : X → BL),FnX P f args Bi nw res Bo ∧ subB B Bi ∧ allFresh ids K B nw = true ∧ (∀ g,(allFresh ids K B nw && outOK Bi nw (Bo g)) = true) ∧ ∀ g,forceV (res g) fun r=>k r ⟨keysB Bi,nw,effB Bi (Bo g)⟩
/-- An operation that may come out in several ways: S tells each. -/
def OpS (P : Program) (ids : List Nat) (o : Oper) (K : KL) (B : BL) (S : SV → Eff → Prop) : Prop :=
 ∀ (N : Nat) (C : Ctx) (a : Act) (w : World),Sat N ids C K B a w → (∀ d,o.dst = some d → d < N) → ∀ (Kn : Act → World → Prop) (Q : Exit → Act → World → Prop),(∀ v e a' w',S v e → Sat N ids C (putK o.dst v K) (applyB e.wc B) a' w' → Kn a' w') → o.wp P a w Kn Q
def isX (o : Oper) : Bool:=match o.op with
 | .next _ _=>true
 | .binOp .eql _ _ (.const (.slice none 0 0)) _=>true
 | .call c=>match c.callee with
   | .builtin .delete=>true
   | _=>false
 | _=>false
/-- A round of a range over a function,asked for by a call of yield. -/
def YieldX (P : Program) (l : Nat) (args : List SV) (Bi : BL) {X : Type} (res : X → SV) (Bo : X → BL) : Prop :=
 ∀ (ρ : Nat → Pl) (F : Nat → Nat → Prop) (I : Nat → Prop) (w : World) (vals : List Value),
   (∀ b,I b → b < w.heap.size) → (∀ c ch,lookB Bi c = some ch → Holds ρ I (F c) w (ρ c) ch) → (∀ c ch,lookB Bi c = some ch → ∀ b,F c b → b < w.heap.size ∧ ¬ I b) →
   (∀ c c' ch ch' b,lookB Bi c = some ch → lookB Bi c' = some ch' → c ≠ c' → F c b → ¬ F c' b) →
   vals.length = args.length → (∀ (i : Nat) (v : SV) (x : Value),args[i]? = some v → vals[i]? = some x → DenV ρ I w v x) →
   ∃ f tmps assign body,(Instr.yield l vals.toArray).run P w = .ok (.round l f tmps assign body) w ∧ RoundIn (wideR none) 0 P l f tmps assign body w fun e w'=>∃ (g : X) (x : Value) (ρ' : Nat → Pl) (F' : Nat → Nat → Prop),e = .returned x ∧ Fr (fun b=>∃ c ch,lookB Bi c = some ch ∧ F c b) w w' ∧ (∀ c,ρ' c = ρ c) ∧
     ∃ I' : Nat → Prop,Ext I w I' w' ∧ (∀ b,I' b → b < w'.heap.size ∧ (I b ∨ (∃ c ch,lookB Bi c = some ch ∧ F c b) ∨ w.heap.size ≤ b)) ∧
     (∀ c ch,lookB (Bo g) c = some ch → Holds ρ' I' (F' c) w' (ρ' c) ch) ∧
     (∀ c ch,lookB (Bo g) c = some ch → ∀ b,F' c b → b < w'.heap.size ∧ ¬ I' b ∧ ((∃ c0 ch0,lookB Bi c0 = some ch0 ∧ F c0 b) ∨ w.heap.size ≤ b)) ∧
     (∀ c c' ch ch' b,lookB (Bo g) c = some ch → lookB (Bo g) c' = some ch' → c ≠ c' → F' c b → ¬ F' c' b) ∧ DenV ρ' I' w' (res g) x
def yieldOf (K : KL) (o : Oper) : Option (Nat × List SV):=match o.op with
 | .call c=>match c.callee with
   | .value (.tmp t)=>match look K t with
     | .c (.one (.raw (.func (.yield l) fs cs)))=>match fs.toList,cs.toList with
       | [],[]=>some (l,c.args.toList.map (opv K))
       | _,_=>none
     | _=>none
   | _=>none
 | _=>none
def vcYield (P : Program) (l : Nat) (args : List SV) (B : BL) (k : SV → Eff → Prop) : Prop :=
 ∃ (X : Type) (Bi : BL) (res : X → SV) (Bo : X → BL),YieldX P l args Bi res Bo ∧ subB B Bi ∧ (∀ g,outOK Bi [] (Bo g) = true) ∧ ∀ g,forceV (res g) fun r=>k r ⟨keysB Bi,[],effB Bi (Bo g)⟩
theorem exec_yield {ev : Operand → Value} {l : Nat} {c : Call} {x : Operand} {xs : List Operand} {w : World} (ho : o.op = .call c) (h1 : c.callee = .value x) (h2 : c.args.toList = xs) (hev : ev x = .func (.yield l) #[] #[]) : (execOp ev o).run P w = (Instr.yield l (xs.map ev).toArray).run P w:=by
 have hargs : c.args = xs.toArray:=by rw [← h2]
 obtain ⟨cal,args,ts⟩:=c
 simp only at h1 hargs
 subst h1 hargs
 simp [execOp,ho,resolve,invoke,hev,Deferred.ofValue]
theorem yieldOf_run {l : Nat} {xs : List SV} (h : yieldOf K o = some (l,xs)) {ρ : Nat → Pl} {I : Nat → Prop} {a : Act} {w : World} (hS : Slots K ρ I a w) : ∃ vals : List Value,(execOp a.eval o).run P w = (Instr.yield l vals.toArray).run P w ∧ (∀ c,o.op ≠ .defer c) ∧ vals.length = xs.length ∧ ∀ (i : Nat) (v : SV) (x : Value),xs[i]? = some v → vals[i]? = some x → DenV ρ I w v x:=by
 unfold yieldOf at h
 split at h
 · rename_i c ho
   split at h
   · rename_i t hc
     split at h
     · rename_i l' fs cs hl
       split at h
       · rename_i hfs hcs
         injection h with h
         injection h with h1 h2
         subst h1 h2
         have hfs : fs = #[]:=by rw [← Array.toList_inj]; exact hfs
         have hcs : cs = #[]:=by rw [← Array.toList_inj]; exact hcs
         subst hfs hcs
         have hv : a.eval (.tmp t) = .func (.yield l') #[] #[]:=hS.ev (x:=.tmp t) (s:=.c (.one (.raw (.func (.yield l') #[] #[])))) hl
         have hnd : ∀ d,o.op ≠ .defer d:=fun d e=>by rw [ho] at e; cases e
         refine ⟨c.args.toList.map a.eval,?_,hnd,by simp,fun i v x hv hx=>?_⟩
         · exact exec_yield ho hc rfl hv
         · rw [List.getElem?_map] at hv hx
           obtain ⟨z,hz,rfl⟩:=Option.map_eq_some_iff.1 hv
           rw [hz] at hx
           simp only [Option.map_some,Option.some.injEq] at hx
           subst hx
           exact hS.get z
       · cases h
     · cases h
   · cases h
 · cases h
theorem opX_yield {l : Nat} {args : List SV} (ho : yieldOf K o = some (l,args)) {X : Type} {Bi : BL} {res : X → SV} {Bo : X → BL} (hy : YieldX P l args Bi res Bo) (hsub : subB B Bi) (hok : ∀ g,outOK Bi [] (Bo g) = true)
   {C : Ctx} {a : Act} {w : World} (hs : Sat N ids C K B a w) (hlt : ∀ d,o.dst = some d → d < N) {r : Option Nat} {Kn : Act → World → Prop} {Q : Exit → Act → World → Prop} (hK : ∀ g a' w',Sat N ids C (putK o.dst (res g) K) (applyB (effB Bi (Bo g)) B) a' w' → Kn a' w') : o.wpIn (wideR r) 0 P a w Kn Q:=by
 obtain ⟨hn,hd,ρ,F,hM,hS⟩:=hs
 have hBi : ∀ {c ch},lookB Bi c = some ch → lookB B c = some ch:=fun {c ch} hc=>subB_get hsub hc
 obtain ⟨vals,hrun,hnd,hvl,hvd⟩:=yieldOf_run (P:=P) (w:=w) ho hS
 obtain ⟨f,tmps,assign,body,hy1,hy2⟩:=hy ρ F (Imm C B F w) w vals (fun b hb=>hb.1) (fun c ch hc=>hM.holds c ch (hBi hc)) (fun c ch hc b hb=>⟨(hM.own c ch (hBi hc) b hb).1,fun hI=>hI.2.2 c ch (hBi hc) hb⟩)
   (fun c c' ch ch' b h1 h2=>hM.disj c c' ch ch' b (hBi h1) (hBi h2)) hvl hvd
 refine ⟨fun _ _=>trivial,?_⟩
 rw [Oper.semAt_eq _ _ _ hnd,hrun,hy1,Oper.uponIn_round]
 refine ⟨fun hs=>absurd hs (by simp),RoundIn.mono (F:=wideR r) (n:=0 - 1) hy2 ?_⟩
 rintro e w' ⟨g,x,ρ',F',rfl,hfr,hρ,I',he1,he2,hH,hO,hDj,hden⟩
 exact hK g _ _ (Sat.back hsub rfl (hok g) hn hd hM hS hlt hfr (fun c _=>hρ c) he2 hH hO hDj hden)
/-- A pointer to a block of the caller's own goes into a map. -/
def ptrUpd (K : KL) (o : Oper) : Bool:=match o.op with
 | .mapUpdate _ _ _ v=>match opv K v with
   | .c (.one (.ptr _ 0))=>true
   | _=>false
 | _=>false
def vcOpX (P : Program) (tt : Tr) (ids : List Nat) (o : Oper) (K : KL) (B : BL) (k : SV → Eff → Prop) : Prop:=match callOf K o with
 | some (f,xs)=>vcCallX P f xs ids K B k
 | none=>match yieldOf K o with
   | some (l,xs)=>vcYield P l xs B k
   | none=>match isX o || ptrUpd K o with
     | true=>∃ S : SV → Eff → Prop,OpS P ids o K B S ∧ ∀ v e,S v e → forceV v fun v=>k v e
     | false=>vcOp P tt ids o K B k
def vcsXS (P : Program) (tt : Tr) (ids : List Nat) (all : List Oper) (o : Oper) (l : List Oper) (ih : KL → BL → Prop) (K : KL) (B : BL) : Prop :=
 match wants all K o.guard with
 | none=>False
 | some false=>match o.dst with
   | some d=>ih ((d,.undef) :: K) B
   | none=>ih K B
 | some true=>vcOpX P tt ids o K B fun v e=>match o.dst with
   | none=>ih K (applyB e.wc B)
   | some d=>match isG (all.length - l.length - 1) l,v with
     | true,.c (.one (.d (.bool b)))=>(b = true → ih ((d,.c (.one (.d (.lit true)))) :: K) (applyB e.wc B)) ∧ (b = false → ih ((d,.c (.one (.d (.lit false)))) :: K) (applyB e.wc B))
     | _,v=>ih ((d,v) :: K) (applyB e.wc B)
noncomputable def vcsX (P : Program) (tt : Tr) (ids : List Nat) (all l : List Oper) (K : KL) (B : BL) (k : KL → BL → Prop) : Prop :=
 List.rec (motive:=fun _=>KL → BL → Prop) k (fun o l ih K B=>vcsXS P tt ids all o l ih K B) l K B
theorem vcsX_cons {all l : List Oper} {k : KL → BL → Prop} : vcsX P tt ids all (o :: l) K B k = vcsXS P tt ids all o l (fun K B=>vcsX P tt ids all l K B k) K B:=rfl
theorem callOf_sound {f : FuncId} {xs : List SV} (h : callOf K o = some (f,xs)) (ρ : Nat → Pl) (I : Nat → Prop) (a : Act) (w : World) (hS : Slots K ρ I a w) : ∃ vals : List Value,(callable P f = true → (execOp a.eval o).run P w = .ok (.enter f vals.toArray) w) ∧ vals.length = xs.length ∧ ∀ (i : Nat) (v : SV) (x : Value),xs[i]? = some v → vals[i]? = some x → DenV ρ I w v x:=by
 unfold callOf at h
 split at h
 · rename_i c ho
   split at h
   · rename_i f' hc
     injection h with h
     injection h with h1 h2
     subst h1 h2
     refine ⟨c.args.toList.map a.eval,fun hcall=>exec_call hcall ho hc rfl rfl,by simp,fun i v x hv hx=>?_⟩
     rw [List.getElem?_map] at hv hx
     obtain ⟨z,hz,rfl⟩:=Option.map_eq_some_iff.1 hv
     rw [hz] at hx
     simp only [Option.map_some,Option.some.injEq] at hx
     subst hx
     exact hS.get z
   · rename_i t hc
     split at h
     · rename_i f' l hl
       injection h with h
       injection h with h1 h2
       subst h1 h2
       have hv:=hS t
       rw [hl] at hv
       obtain ⟨vs,e,hcp⟩:=hv
       obtain ⟨q1,q2⟩:=DenCaps.vals l vs hcp
       refine ⟨c.args.toList.map a.eval ++ vs,fun hcall=>exec_callv hcall ho hc rfl e,by simp [q1],fun i v x hv hx=>?_⟩
       by_cases hi : i < c.args.toList.length
       · rw [List.getElem?_append_left (by simpa using hi)] at hv hx
         rw [List.getElem?_map] at hv hx
         obtain ⟨z,hz,rfl⟩:=Option.map_eq_some_iff.1 hv
         rw [hz] at hx
         simp only [Option.map_some,Option.some.injEq] at hx
         subst hx
         exact hS.get z
       · rw [List.getElem?_append_right (by simpa using hi)] at hv hx
         simp only [List.length_map] at hv hx
         exact q2 _ v x hv hx
     · cases h
   · cases h
 · cases h
theorem vcOpX_sound (hP : TblOK P tt) (hnd : ∀ c,o.op ≠ .defer c) (r : Option Nat) {k : SV → Eff → Prop} (h : vcOpX P tt ids o K B k) {C : Ctx} {a : Act} {w : World} (hs : Sat N ids C K B a w) (hlt : ∀ d,o.dst = some d → d < N) {Kn : Act → World → Prop} {Q : Exit → Act → World → Prop} (hK : ∀ v e a' w',k v e → Sat N ids C (putK o.dst v K) (applyB e.wc B) a' w' → Kn a' w') : o.wpIn (wideR r) 0 P a w Kn Q:=by
 unfold vcOpX at h
 split at h
 · rename_i f xs hc
   obtain ⟨X,Bi,nw,res,Bo,h1,h2,h3,h4,h5⟩:=h
   refine op_in hnd (opX_call (callOf_sound hc) h1 h2 h3 h4 hs hlt fun g a' w' hs'=>?_)
   have h5:=h5 g
   rw [forceV_eq] at h5
   exact hK _ _ _ _ h5 hs'
 · split at h
   · rename_i l xs hc
     obtain ⟨X,Bi,res,Bo,h1,h2,h3,h4⟩:=h
     refine opX_yield hc h1 h2 h3 hs hlt fun g a' w' hs'=>?_
     have h4:=h4 g
     rw [forceV_eq] at h4
     exact hK _ _ _ _ h4 hs'
   · split at h
     · obtain ⟨S,hS,h⟩:=h
       refine op_in hnd (hS N C a w hs hlt Kn Q fun v e a' w' hv hs'=>?_)
       have h:=h v e hv
       rw [forceV_eq] at h
       exact hK _ _ _ _ h hs'
     · obtain ⟨v,e,h,hO,hf⟩:=vcOp_sound hP h
       exact op_in hnd (hO K B (fun _ _=>rfl) (fun _ _=>rfl) hf C a w hs hlt Kn Q fun a' w' hs2=>hK _ _ _ _ h hs2)
theorem vcsX_seq (hP : TblOK P tt) (all : List Oper) : ∀ (l : List Oper) (K : KL) (B : BL) (k : KL → BL → Prop),dstOK N l = true → vcsX P tt ids all l K B k → ∀ (C : Ctx) (a : Act) (w : World),Sat N ids C K B a w →
   ∀ (r : Option Nat) (Q : Exit → Act → World → Prop),(∀ K' B',k K' B' → ∀ a' w',Sat N ids C K' B' a' w' → Q .normal a' w') → wpListIn (wideR r) 0 P all.toArray Q l a w
 | [],K,B,k,_,h,C,a,w,hs,r,Q,hk=>wpListIn_nil (hk K B h a w hs)
 | o :: l,K,B,k,hd,h,C,a,w,hs,r,Q,hk=>by
   simp only [dstOK,Bool.and_eq_true] at hd
   obtain ⟨⟨hd0,hnd⟩,hdl⟩:=hd
   have hnd:=notDefer hnd
   have hlt : ∀ d,o.dst = some d → d < N:=fun d e=>by rw [e] at hd0; simpa [Nat.blt_eq] using hd0
   have hs':=hs
   obtain ⟨_,_,ρ,F,hM,hS⟩:=hs'
   rw [vcsX_cons] at h
   unfold vcsXS at h
   refine wpListIn_step fun Kn hKn=>?_
   split at h
   · exact h.elim
   · rename_i hw
     rw [if_neg (by rw [wants_sound hw hS]; simp)]
     refine ⟨fun _ _=>trivial,hKn _ _ ?_⟩
     have hu:=hs.undef o.dst hlt
     split at h
     · rename_i d e
       rw [e] at hu ⊢
       exact vcsX_seq hP all l _ _ k hdl h C _ w hu r Q hk
     · rename_i e
       rw [e] at hu ⊢
       exact vcsX_seq hP all l _ _ k hdl h C _ w hu r Q hk
   · rename_i hw
     rw [if_pos (wants_sound hw hS)]
     refine vcOpX_sound hP hnd r h hs hlt fun v e a' w' h hs2=>hKn _ _ ?_
     split at h
     · rename_i e2
       rw [e2] at hs2
       exact vcsX_seq hP all l _ _ k hdl h C _ w' hs2 r Q hk
     · rename_i d e2
       rw [e2] at hs2
       split at h
       · rename_i b hg
         cases b with
         | true=>exact vcsX_seq hP all l _ _ k hdl (h.1 rfl) C _ w' hs2.lit r Q hk
         | false=>exact vcsX_seq hP all l _ _ k hdl (h.2 rfl) C _ w' hs2.lit r Q hk
       · exact vcsX_seq hP all l _ _ k hdl h C _ w' hs2 r Q hk
theorem TrQ.regionX (hP : TblOK P tt) {id : Nat} {ops : Array Oper} {Q : Ex → KL → BL → Prop} (hd : dstOK N ops.toList = true) (h : vcsX P tt ids ops.toList ops.toList K B (fun K B=>Q .nrm K B)) : TrQ P N ids (.region id ops false) K B Q:=by
 intro r hr C Qs hq a w hs
 refine wpIn_region_list ?_
 have:=vcsX_seq hP ops.toList ops.toList K B _ hd h C a w hs r Qs (fun K' B' hk a' w' hs'=>hq .nrm K' B' C.ds (fun _=>rfl) hk a' w' hs')
 simpa using this
/-- From one state to others,of which one holds. -/
def LeX (ids : List Nat) (K : KL) (B : BL) {X : Type} (K' : X → KL) (B' : X → BL) : Prop:=∀ (N : Nat) (C : Ctx) (a : Act) (w : World),Sat N ids C K B a w → ∃ x,Sat N ids C (K' x) (B' x) a w
theorem TrQ.leX {c : Code} {X : Type} {K' : X → KL} {B' : X → BL} {Q : Ex → KL → BL → Prop} (h : LeX ids K B K' B') (ht : ∀ x,TrQ P N ids c (K' x) (B' x) Q) : TrQ P N ids c K B Q:=fun r hr C Qs hq a w hs=>by
 obtain ⟨x,hx⟩:=h N C a w hs
 exact ht x r hr C Qs hq a w hx
end
end Go.Proofs.YteoamepgonpdlaaGreat
/-!
  Objects: several blocks as one; a pool of objects by their addresses.
-/
namespace Go.Proofs.YteoamepgonpdlaaGreat
set_option linter.unusedVariables false
set_option linter.unusedSimpArgs false
open Go.RowKit
/-- Several blocks,numbered within; c is where it begins. -/
def grpR (c : Nat) (Bl : BL) (I F : Nat → Prop) (w : World) (p : Pl) : Prop :=
 ∃ (ρ : Nat → Pl) (G : Nat → Nat → Prop),ρ c = p ∧ (∀ d ch,lookB Bl d = some ch → Holds ρ I (G d) w (ρ d) ch) ∧
   (∀ d d' ch ch' b,lookB Bl d = some ch → lookB Bl d' = some ch' → d ≠ d' → G d b → ¬ G d' b) ∧ ∀ b,F b ↔ ∃ d ch,lookB Bl d = some ch ∧ G d b
def Ob.grp (c : Nat) (Bl : BL) : Ob where
 R:=grpR c Bl
 stable:=fun I F w I' w' p ⟨ρ,G,h1,h2,h3,h4⟩ he hF hz=>⟨ρ,G,h1,fun d ch hd=>Holds.stable he (fun b hb=>hF b ((h4 b).2 ⟨d,ch,hd,hb⟩)) hz ch (fun _ _=>rfl) (h2 d ch hd),h3,h4⟩
/-- .. that lies at b. -/
def Ob.at (o : Ob) (b : Nat) : Ob where
 R:=fun I F w p=>p.blk = b ∧ o.R I F w p
 stable:=fun I F w I' w' p h he hF hz=>⟨h.1,o.stable I F w I' w' p h.2 he hF hz⟩
def Ob.le (o o' : Ob) : Prop:=∀ I F w p,o.R I F w p → o'.R I F w p
/-- A pool of objects,by their addresses. -/
def poolR (I : Nat → Prop) (w : World) : List (Nat × Ob) → (Nat → Prop) → Prop
 | [],F=>∀ b,¬ F b
 | (a,o) :: L,F=>∃ (F1 F2 : Nat → Prop) (p : Pl),(∀ b,F b ↔ F1 b ∨ F2 b) ∧ (∀ b,F1 b → ¬ F2 b) ∧ p.blk = a ∧ o.R I F1 w p ∧ poolR I w L F2
theorem poolR.stable {I I' : Nat → Prop} {w w' : World} (he : Ext I w I' w') (hz : w.heap.size ≤ w'.heap.size) : ∀ {L : List (Nat × Ob)} {F : Nat → Prop},(∀ b,F b → w'.heap[b]? = w.heap[b]?) → poolR I w L F → poolR I' w' L F
 | [],_,_,h=>h
 | (a,o) :: L,F,hF,⟨F1,F2,p,h1,h2,h3,h4,h5⟩=>⟨F1,F2,p,h1,h2,h3,o.stable _ _ _ _ _ _ h4 he (fun b hb=>hF b ((h1 b).2 (.inl hb))) hz,h5.stable he hz (fun b hb=>hF b ((h1 b).2 (.inr hb)))⟩
def Ob.pool (L : List (Nat × Ob)) : Ob where
 R:=fun I F w _=>poolR I w L F
 stable:=fun I F w I' w' p h he hF hz=>h.stable he hz hF
def pget : List (Nat × Ob) → Nat → Option Ob
 | [],_=>none
 | (a,o) :: L,b=>if a = b then some o else pget L b
def pset : List (Nat × Ob) → Nat → Ob → List (Nat × Ob)
 | [],_,_=>[]
 | (a,o) :: L,b,o'=>if a = b then (a,o') :: L else (a,o) :: pset L b o'
/-- One taken out; and put back,turned. -/
theorem poolR.out {I : Nat → Prop} {w : World} {b : Nat} {o : Ob} : ∀ {L : List (Nat × Ob)} {F : Nat → Prop},pget L b = some o → poolR I w L F → ∃ (F1 F2 : Nat → Prop) (p : Pl),(∀ x,F x ↔ F1 x ∨ F2 x) ∧ (∀ x,F1 x → ¬ F2 x) ∧ p.blk = b ∧ o.R I F1 w p ∧
   ∀ (I' : Nat → Prop) (w' : World) (o' : Ob) (F1' : Nat → Prop) (p' : Pl),Ext I w I' w' → w.heap.size ≤ w'.heap.size → (∀ x,F2 x → w'.heap[x]? = w.heap[x]?) → p'.blk = b → o'.R I' F1' w' p' → (∀ x,F1' x → ¬ F2 x) → poolR I' w' (pset L b o') (fun x=>F1' x ∨ F2 x)
 | [],F,h,_=>by cases h
 | (a,q) :: L,F,h,⟨G1,G2,p,h1,h2,h3,h4,h5⟩=>by
   unfold pget at h
   split at h
   · rename_i e
     injection h with h
     subst h
     refine ⟨G1,G2,p,h1,h2,h3.trans e,h4,fun I' w' o' F1' p' he hz hf hp ho hd=>?_⟩
     unfold pset
     rw [if_pos e]
     exact ⟨F1',G2,p',fun x=>Iff.rfl,hd,hp.trans e.symm,ho,h5.stable he hz hf⟩
   · rename_i e
     obtain ⟨F1,F2,p1,g1,g2,g3,g4,g5⟩:=poolR.out h h5
     refine ⟨F1,fun x=>G1 x ∨ F2 x,p1,fun x=>?_,fun x hx=>?_,g3,g4,fun I' w' o' F1' p' he hz hf hp ho hd=>?_⟩
     · rw [h1,g1]
       constructor
       · rintro (h | h | h)
         · exact .inr (.inl h)
         · exact .inl h
         · exact .inr (.inr h)
       · rintro (h | h | h)
         · exact .inr (.inl h)
         · exact .inl h
         · exact .inr (.inr h)
     · rintro (h | h)
       · exact h2 x h ((g1 x).2 (.inl hx))
       · exact g2 x hx h
     · unfold pset
       rw [if_neg e]
       refine ⟨G1,fun x=>F1' x ∨ F2 x,p,fun x=>?_,fun x hx=>?_,h3,q.stable _ _ _ _ _ _ h4 he (fun x hx=>hf x (.inl hx)) hz,g5 I' w' o' F1' p' he hz (fun x hx=>hf x (.inr hx)) hp ho (fun x hx h=>hd x hx (.inr h))⟩
       · constructor
         · rintro (h | h | h)
           · exact .inr (.inl h)
           · exact .inl h
           · exact .inr (.inr h)
         · rintro (h | h | h)
           · exact .inr (.inl h)
           · exact .inl h
           · exact .inr (.inr h)
       · rintro (h | h)
         · exact hd x h (.inl hx)
         · exact h2 x hx ((g1 x).2 (.inr h))
/-- A new one put in. -/
theorem poolR.add {I : Nat → Prop} {w : World} {L : List (Nat × Ob)} {F F1 : Nat → Prop} {o : Ob} {p : Pl} (h : poolR I w L F) (ho : o.R I F1 w p) (hd : ∀ x,F1 x → ¬ F x) : poolR I w ((p.blk,o) :: L) (fun x=>F1 x ∨ F x) :=
 ⟨F1,F,p,fun _=>Iff.rfl,hd,rfl,ho,h⟩
theorem FnX.fn {P : Program} {f : FuncId} {args : List SV} {Bi : BL} {nw : List Nat} {res : SV} {Bo : BL} (h : FnX P f args Bi nw (fun _ : Unit=>res) (fun _=>Bo)) : Fn P f args Bi nw res Bo :=
 ⟨h.1,fun ρ F I w vals a1 a2 a3 a4 a5 a6=>(h.2 ρ F I w vals a1 a2 a3 a4 a5 a6).mono fun e w' ⟨_,q⟩=>q⟩
/-- A contract on one of a pool. -/
theorem FnX.pool {P : Program} {f : FuncId} {c q b : Nat} {args : List SV} {Bi : BL} {nw : List Nat} {X : Type} {res : X → SV} {Bo : X → BL} {o : Ob} {o' : X → Ob} {L : List (Nat × Ob)}
   (h : FnX P f (.c (.one (.ptr c 0)) :: args) ((c,.obj o) :: Bi) nw res (fun g=>(c,.obj (o' g)) :: Bo g)) (hL : pget L b = some o)
   (h1 : (args.all fun v=>!v.has c) = true) (h2 : noB c Bi = true ∧ (lookB Bi q).isNone = true) (h3 : (nw.contains c || nw.contains q) = false) (h4 : ∀ g,(noB c (Bo g) && (lookB (Bo g) q).isNone && !(res g).has c) = true) :
   FnX P f (.c (.one (.d (.adr (some b)))) :: args) ((q,.obj (.pool L)) :: Bi) nw res (fun g=>(q,.obj (.pool (pset L b (o' g)))) :: Bo g):=by
 obtain ⟨hcall,h⟩:=h
 refine ⟨hcall,fun ρ F I w vals hI hH hF hdj hlen hden=>?_⟩
 have hq : lookB ((q,Ch.obj (.pool L)) :: Bi) q = some (.obj (.pool L)):=by rw [lookB_cons,if_pos rfl]
 have hP : poolR I w L (F q):=hH q _ hq
 obtain ⟨F1,F2,p,k1,k2,k3,k4,k5⟩:=hP.out hL
 obtain ⟨nb1,nb2⟩:=noB_has h2.1
 have hqn : lookB Bi q = none:=by simpa using h2.2
 have hBi : ∀ {d ch},lookB Bi d = some ch → d ≠ q ∧ d ≠ c ∧ lookB ((q,Ch.obj (.pool L)) :: Bi) d = some ch:=fun {d ch} hd=>by
   have e1 : d ≠ q:=fun e=>by rw [e,hqn] at hd; cases hd
   exact ⟨e1,fun e=>(by rw [e,nb1] at hd; cases hd),by rw [lookB_cons,if_neg (Ne.symm e1)]; exact hd⟩
 have hρ0 : ∀ (v : SV),v.has c = false → ∀ d,v.has d = true → upd ρ c p d = ρ d:=fun v hv d hd=>upd_other _ _ (fun e=>by rw [e,hv] at hd; cases hd)
 match vals,hlen with
 | v0 :: vals,hlen =>
   have hv0 : v0 = .pointer (some ⟨b,0,none⟩):=hden 0 _ v0 rfl rfl
   have hcase : ∀ {d ch},lookB ((c,Ch.obj o) :: Bi) d = some ch → (d = c ∧ ch = .obj o) ∨ (d ≠ c ∧ lookB Bi d = some ch):=fun {d ch} hd=>by
     rw [lookB_cons] at hd
     split at hd
     · rename_i e; injection hd with hd; exact .inl ⟨e.symm,hd.symm⟩
     · rename_i e; exact .inr ⟨Ne.symm e,hd⟩
   refine (h (upd ρ c p) (upd F c F1) I w (v0 :: vals) hI ?_ ?_ ?_ (by simpa using hlen) ?_).mono ?_
   · intro d ch hd
     rcases hcase hd with ⟨rfl,rfl⟩ | ⟨e,hd⟩
     · rw [upd_same,upd_same]; exact k4
     · rw [upd_other _ _ e,upd_other _ _ e]
       exact Holds.stable (Ext.refl _ _) (fun _ _=>rfl) (Nat.le_refl _) ch (fun j hj=>upd_other _ _ (fun e'=>by rw [e',nb2 d ch hd] at hj; cases hj)) (hH d ch (hBi hd).2.2)
   · intro d ch hd x hx
     rcases hcase hd with ⟨rfl,rfl⟩ | ⟨e,hd⟩
     · rw [upd_same] at hx
       exact hF q _ hq x ((k1 x).2 (.inl hx))
     · rw [upd_other _ _ e] at hx
       exact hF d ch (hBi hd).2.2 x hx
   · intro d d' ch ch' x hd hd' hne hx hx'
     rcases hcase hd with ⟨ed,_⟩ | ⟨e,hdb⟩
     · rcases hcase hd' with ⟨ed',_⟩ | ⟨e',hdb'⟩
       · exact hne (ed.trans ed'.symm)
       · rw [ed,upd_same] at hx
         rw [upd_other _ _ e'] at hx'
         exact hdj q d' _ ch' x hq (hBi hdb').2.2 (Ne.symm (hBi hdb').1) ((k1 x).2 (.inl hx)) hx'
     · rw [upd_other _ _ e] at hx
       rcases hcase hd' with ⟨ed',_⟩ | ⟨e',hdb'⟩
       · rw [ed',upd_same] at hx'
         exact hdj q d _ ch x hq (hBi hdb).2.2 (Ne.symm (hBi hdb).1) ((k1 x).2 (.inl hx')) hx
       · rw [upd_other _ _ e'] at hx'
         exact hdj d d' ch ch' x (hBi hdb).2.2 (hBi hdb').2.2 hne hx hx'
   · intro i v x hv hx
     match i with
     | 0 =>
       simp only [List.getElem?_cons_zero,Option.some.injEq] at hv hx
       subst hv hx
       show v0 = _
       rw [upd_same,k3]
       exact hv0
     | i + 1 =>
       have hv' : args[i]? = some v:=by simpa using hv
       have:=List.all_eq_true.1 h1 v (List.mem_of_getElem? hv')
       exact DenV.mono (Ext.refl _ _) v x (hρ0 v (by simpa using this)) (hden (i + 1) v x (by simpa using hv) hx)
   · rintro e w' ⟨g,x,ρ',F',rfl,hfr,hρ,I',he1,he2,hH',hO,hDj,hden'⟩
     have hg:=h4 g
     simp only [Bool.and_eq_true,Bool.not_eq_true'] at hg
     obtain ⟨⟨g1,g2⟩,g3⟩:=hg
     obtain ⟨m1,m2⟩:=noB_has g1
     have hqo : lookB (Bo g) q = none:=by simpa using g2
     simp only [Bool.or_eq_false_iff] at h3
     have hcn : c ∉ nw:=fun hh=>by have:=List.contains_iff_mem.2 hh; rw [h3.1] at this; cases this
     have hqn' : q ∉ nw:=fun hh=>by have:=List.contains_iff_mem.2 hh; rw [h3.2] at this; cases this
     have hcc : lookB ((c,Ch.obj (o' g)) :: Bo g) c = some (.obj (o' g)):=by rw [lookB_cons,if_pos rfl]
     have hBo : ∀ {d ch},lookB (Bo g) d = some ch → d ≠ c ∧ d ≠ q ∧ lookB ((c,Ch.obj (o' g)) :: Bo g) d = some ch:=fun {d ch} hd=>by
       have e1 : d ≠ c:=fun e=>by rw [e,m1] at hd; cases hd
       exact ⟨e1,fun e=>(by rw [e,hqo] at hd; cases hd),by rw [lookB_cons,if_neg (Ne.symm e1)]; exact hd⟩
     have hFr : ∀ y,(∃ d ch,lookB ((c,Ch.obj o) :: Bi) d = some ch ∧ upd F c F1 d y) → ∃ d ch,lookB ((q,Ch.obj (.pool L)) :: Bi) d = some ch ∧ F d y:=by
       rintro y ⟨d,ch,hd,hy⟩
       rcases hcase hd with ⟨rfl,rfl⟩ | ⟨e,hd⟩
       · rw [upd_same] at hy
         exact ⟨q,_,hq,(k1 y).2 (.inl hy)⟩
       · rw [upd_other _ _ e] at hy
         exact ⟨d,ch,(hBi hd).2.2,hy⟩
     have hF2 : ∀ y,F2 y → ¬ ∃ d ch,lookB ((c,Ch.obj o) :: Bi) d = some ch ∧ upd F c F1 d y:=by
       rintro y hy ⟨d,ch,hd,hy'⟩
       rcases hcase hd with ⟨rfl,rfl⟩ | ⟨e,hd⟩
       · rw [upd_same] at hy'
         exact k2 y hy' hy
       · rw [upd_other _ _ e] at hy'
         exact hdj q d _ ch y hq (hBi hd).2.2 (Ne.symm (hBi hd).1) ((k1 y).2 (.inr hy)) hy'
     have hF2s : ∀ y,F2 y → y < w.heap.size ∧ ¬ I y:=fun y hy=>hF q _ hq y ((k1 y).2 (.inr hy))
     have hold : ∀ y,F2 y → w'.heap[y]? = w.heap[y]?:=fun y hy=>hfr.block y (hF2s y hy).1 (hF2 y hy)
     have hnot : ∀ d ch y,lookB ((c,Ch.obj (o' g)) :: Bo g) d = some ch → F' d y → ¬ F2 y:=fun d ch y hd hy h2y=>by
       rcases (hO d ch hd y hy).2.2 with h | h
       · exact hF2 y h2y h
       · have:=(hF2s y h2y).1; omega
     have hρc : ρ' c = p:=by rw [hρ c hcn,upd_same]
     have hnew:=k5 I' w' (o' g) (F' c) (ρ' c) he1 hfr.size hold (by rw [hρc]; exact k3) (hH' c _ hcc) (fun y hy=>hnot c _ y hcc hy)
     refine ⟨g,x,upd ρ' c (ρ c),fun d=>if d = q then (fun y=>F' c y ∨ F2 y) else F' d,rfl,hfr.mono fun y _ hy=>hFr y hy,fun d hd=>?_,I',he1,fun y hy=>⟨(he2 y hy).1,?_⟩,?_,?_,?_,?_⟩
     · by_cases e : d = c
       · subst e; rw [upd_same]
       · rw [upd_other _ _ e,hρ d hd,upd_other _ _ e]
     · rcases (he2 y hy).2 with h | h | h
       · exact .inl h
       · exact .inr (.inl (hFr y h))
       · exact .inr (.inr h)
     · intro d ch hd
       rw [lookB_cons] at hd
       split at hd
       · rename_i e
         injection hd with hd
         subst hd e
         simp only [if_true]
         exact hnew
       · rename_i e
         obtain ⟨e1,e2,e3⟩:=hBo hd
         simp only [if_neg e2]
         rw [upd_other _ _ e1]
         exact Holds.stable (Ext.refl _ _) (fun _ _=>rfl) (Nat.le_refl _) ch (fun j hj=>upd_other _ _ (fun e'=>by rw [e',m2 d ch hd] at hj; cases hj)) (hH' d ch e3)
     · intro d ch hd y hy
       rw [lookB_cons] at hd
       split at hd
       · rename_i e
         subst e
         simp only [if_true] at hy
         rcases hy with hy | hy
         · obtain ⟨a1,a2,a3⟩:=hO c _ hcc y hy
           exact ⟨a1,a2,a3.imp (hFr y) id⟩
         · refine ⟨Nat.lt_of_lt_of_le (hF2s y hy).1 hfr.size,fun hi=>?_,.inl ⟨q,_,hq,(k1 y).2 (.inr hy)⟩⟩
           rcases (he2 y hi).2 with h | h | h
           · exact (hF2s y hy).2 h
           · exact hF2 y hy h
           · have:=(hF2s y hy).1; omega
       · obtain ⟨e1,e2,e3⟩:=hBo hd
         simp only [if_neg e2] at hy
         obtain ⟨a1,a2,a3⟩:=hO d ch e3 y hy
         exact ⟨a1,a2,a3.imp (hFr y) id⟩
     · intro d d' ch ch' y hd hd' hne hy hy'
       rw [lookB_cons] at hd hd'
       split at hd
       · rename_i e
         subst e
         rw [if_neg hne] at hd'
         obtain ⟨e1,e2,e3⟩:=hBo hd'
         simp only [if_true] at hy
         simp only [if_neg e2] at hy'
         rcases hy with hy | hy
         · exact hDj c d' _ ch' y hcc e3 (Ne.symm e1) hy hy'
         · exact hnot d' ch' y e3 hy' hy
       · obtain ⟨e1,e2,e3⟩:=hBo hd
         simp only [if_neg e2] at hy
         split at hd'
         · rename_i e
           subst e
           simp only [if_true] at hy'
           rcases hy' with hy' | hy'
           · exact hDj d c ch _ y e3 hcc e1 hy hy'
           · exact hnot d ch y e3 hy hy'
         · obtain ⟨e1',e2',e3'⟩:=hBo hd'
           simp only [if_neg e2'] at hy'
           exact hDj d d' ch ch' y e3 e3' hne hy hy'
     · exact DenV.mono (Ext.refl _ _) (res g) x (fun j hj=>upd_other _ _ (fun e'=>by rw [e',g3] at hj; cases hj)) hden'
theorem lookB_app : ∀ (B B' : BL) (c : Nat),lookB (B ++ B') c = (match lookB B c with
   | some ch=>some ch
   | none=>lookB B' c)
 | [],B',c=>rfl
 | (d,ch) :: B,B',c=>by
   rw [List.cons_append,lookB_cons,lookB_cons,lookB_app B B' c]
   split <;> rfl
def noneIn (l : List Nat) : BL → Bool
 | []=>true
 | (c,ch) :: B=>!l.contains c && (l.all fun d=>!ch.has d) && noneIn l B
theorem noneIn_get {l : List Nat} : ∀ {B : BL},noneIn l B = true → ∀ {c ch},lookB B c = some ch → c ∉ l ∧ ∀ d,d ∈ l → ch.has d = false
 | (c,ch) :: B,h,d,ch',hd=>by
   simp only [noneIn,Bool.and_eq_true,Bool.not_eq_true'] at h
   rw [lookB_cons] at hd
   split at hd
   · rename_i e
     subst e
     injection hd with hd
     subst hd
     refine ⟨fun hh=>?_,fun x hx=>?_⟩
     · have:=List.contains_iff_mem.2 hh
       rw [h.1.1] at this
       cases this
     · have:=List.all_eq_true.1 h.1.2 x hx
       simpa using this
   · exact noneIn_get h.2 hd
def hidOf (inn nw nw' : List Nat) : List Nat:=inn ++ nw.filter fun d=>!nw'.contains d
theorem mem_of_contains {l : List Nat} {d : Nat} (h : l.contains d = true) : d ∈ l:=List.contains_iff_mem.1 h
theorem not_mem_of {l : List Nat} {d : Nat} (h : l.contains d = false) : d ∉ l:=fun hh=>by rw [List.contains_iff_mem.2 hh] at h; cases h
def closeIn (c : Nat) (inn : List Nat) (args : List SV) (Bl Bi : BL) (nw nw' : List Nat) : Bool :=
 (keysB Bl).contains c && (keysB Bl).all (fun d=>(c :: inn).contains d) && amongB (c :: inn) Bl && !nw.contains c && !inn.contains c && nw'.all (fun d=>nw.contains d && !inn.contains d) && (args.all fun v=>inn.all fun d=>!v.has d) && noneIn inn Bi && (lookB Bi c).isNone
def closeOut (c : Nat) (hid : List Nat) (res : SV) (Bl' Bo : BL) : Bool :=
 (keysB Bl').contains c && (keysB Bl').all (fun d=>(c :: hid).contains d) && noneIn hid Bo && (lookB Bo c).isNone && (hid.all fun d=>!res.has d)
/-- A contract on blocks laid open,as one on the object that they are. -/
theorem FnX.close {P : Program} {f : FuncId} {c : Nat} {args : List SV} {Bl Bi : BL} {nw nw' : List Nat} {X : Type} {res : X → SV} {Bl' Bo : X → BL} {o : Ob} {o' : X → Ob} (inn : List Nat)
   (h : FnX P f args (Bl ++ Bi) nw res (fun g=>Bl' g ++ Bo g)) (hin : ∀ I F w p,o.R I F w p → grpR c Bl I F w p) (hout : ∀ g I F w p,grpR c (Bl' g) I F w p → (o' g).R I F w p)
   (h1 : closeIn c inn args Bl Bi nw nw' = true) (h2 : ∀ g,closeOut c (hidOf inn nw nw') (res g) (Bl' g) (Bo g) = true) :
   FnX P f args ((c,.obj o) :: Bi) nw' res (fun g=>(c,.obj (o' g)) :: Bo g):=by
 obtain ⟨hcall,h⟩:=h
 simp only [closeIn,Bool.and_eq_true,Bool.not_eq_true',Option.isNone_iff_eq_none] at h1
 obtain ⟨⟨⟨⟨⟨⟨⟨⟨a1,a2⟩,a3⟩,a4⟩,a5⟩,a6⟩,a7⟩,a8⟩,a9⟩:=h1
 have a1:=mem_of_contains a1
 have a4:=not_mem_of a4
 have a5:=not_mem_of a5
 have a2' : ∀ d,d ∈ keysB Bl → d = c ∨ d ∈ inn:=fun d hd=>by
   have:=mem_of_contains (List.all_eq_true.1 a2 d hd)
   exact List.mem_cons.1 this
 have a6' : ∀ d,d ∈ nw' → d ∈ nw ∧ d ∉ inn:=fun d hd=>by
   have:=List.all_eq_true.1 a6 d hd
   simp only [Bool.and_eq_true,Bool.not_eq_true'] at this
   exact ⟨mem_of_contains this.1,not_mem_of this.2⟩
 refine ⟨hcall,fun ρ F I w vals hI hH hF hdj hlen hden=>?_⟩
 have hcl : lookB ((c,Ch.obj o) :: Bi) c = some (.obj o):=by rw [lookB_cons,if_pos rfl]
 obtain ⟨ρi,G,q1,q2,q3,q4⟩:=hin _ _ _ _ (hH c _ hcl)
 have hBi : ∀ {d ch},lookB Bi d = some ch → d ≠ c ∧ d ∉ inn ∧ lookB ((c,Ch.obj o) :: Bi) d = some ch:=fun {d ch} hd=>by
   have e1 : d ≠ c:=fun e=>by rw [e,a9] at hd; cases hd
   exact ⟨e1,(noneIn_get a8 hd).1,by rw [lookB_cons,if_neg (Ne.symm e1)]; exact hd⟩
 have hcase : ∀ {d ch},lookB (Bl ++ Bi) d = some ch → (lookB Bl d = some ch ∧ d ∈ keysB Bl) ∨ (d ∉ keysB Bl ∧ lookB Bi d = some ch):=fun {d ch} hd=>by
   rw [lookB_app] at hd
   cases e : lookB Bl d with
   | some ch' =>
     rw [e] at hd
     exact .inl ⟨hd,keysB_mem.2 ⟨ch',e⟩⟩
   | none =>
     rw [e] at hd
     exact .inr ⟨fun hk=>(by obtain ⟨ch',hk⟩:=keysB_mem.1 hk; rw [e] at hk; cases hk),hd⟩
 let ρs : Nat → Pl:=fun d=>if d ∈ inn then ρi d else ρ d
 let Fs : Nat → Nat → Prop:=fun d=>if d ∈ keysB Bl then G d else F d
 have hρs : ∀ d,d ∉ inn → ρs d = ρ d:=fun d hd=>if_neg hd
 have hρi : ∀ d,d ∈ c :: inn → ρs d = ρi d:=fun d hd=>by
   rcases List.mem_cons.1 hd with rfl | hd
   · rw [hρs _ a5,q1]
   · exact if_pos hd
 have hFr : ∀ y,(∃ d ch,lookB (Bl ++ Bi) d = some ch ∧ Fs d y) → ∃ d ch,lookB ((c,Ch.obj o) :: Bi) d = some ch ∧ F d y:=by
   rintro y ⟨d,ch,hd,hy⟩
   rcases hcase hd with ⟨e1,e2⟩ | ⟨e1,e2⟩
   · have hy : G d y:=by simpa only [Fs,if_pos e2] using hy
     exact ⟨c,_,hcl,(q4 y).2 ⟨d,ch,e1,hy⟩⟩
   · have hy : F d y:=by simpa only [Fs,if_neg e1] using hy
     exact ⟨d,ch,(hBi e2).2.2,hy⟩
 refine (h ρs Fs I w vals hI ?_ ?_ ?_ hlen ?_).mono ?_
 · intro d ch hd
   rcases hcase hd with ⟨e1,e2⟩ | ⟨e1,e2⟩
   · have hk : d ∈ c :: inn:=List.mem_cons.2 (a2' d e2)
     rw [hρi d hk]
     simp only [Fs,if_pos e2]
     exact Holds.stable (Ext.refl _ _) (fun _ _=>rfl) (Nat.le_refl _) ch (fun j hj=>hρi j (Ch.among_has (amongB_get a3 e1) hj)) (q2 d ch e1)
   · rw [hρs d (hBi e2).2.1]
     simp only [Fs,if_neg e1]
     exact Holds.stable (Ext.refl _ _) (fun _ _=>rfl) (Nat.le_refl _) ch (fun j hj=>hρs j (fun hji=>by rw [(noneIn_get a8 e2).2 j hji] at hj; cases hj)) (hH d ch (hBi e2).2.2)
 · intro d ch hd x hx
   rcases hcase hd with ⟨e1,e2⟩ | ⟨e1,e2⟩
   · simp only [Fs,if_pos e2] at hx
     exact hF c _ hcl x ((q4 x).2 ⟨d,ch,e1,hx⟩)
   · simp only [Fs,if_neg e1] at hx
     exact hF d ch (hBi e2).2.2 x hx
 · intro d d' ch ch' x hd hd' hne hx hx'
   rcases hcase hd with ⟨e1,e2⟩ | ⟨e1,e2⟩
   · simp only [Fs,if_pos e2] at hx
     rcases hcase hd' with ⟨e1',e2'⟩ | ⟨e1',e2'⟩
     · simp only [Fs,if_pos e2'] at hx'
       exact q3 d d' ch ch' x e1 e1' hne hx hx'
     · simp only [Fs,if_neg e1'] at hx'
       exact hdj c d' _ ch' x hcl (hBi e2').2.2 (Ne.symm (hBi e2').1) ((q4 x).2 ⟨d,ch,e1,hx⟩) hx'
   · simp only [Fs,if_neg e1] at hx
     rcases hcase hd' with ⟨e1',e2'⟩ | ⟨e1',e2'⟩
     · simp only [Fs,if_pos e2'] at hx'
       exact hdj c d _ ch x hcl (hBi e2).2.2 (Ne.symm (hBi e2).1) ((q4 x).2 ⟨d',ch',e1',hx'⟩) hx
     · simp only [Fs,if_neg e1'] at hx'
       exact hdj d d' ch ch' x (hBi e2).2.2 (hBi e2').2.2 hne hx hx'
 · intro i v x hv hx
   have hva:=List.all_eq_true.1 a7 v (List.mem_of_getElem? hv)
   exact DenV.mono (Ext.refl _ _) v x (fun j hj=>hρs j (fun hji=>by
     have:=List.all_eq_true.1 hva j hji
     rw [hj] at this
     cases this)) (hden i v x hv hx)
 · rintro e w' ⟨g,x,ρ',F',rfl,hfr,hρ,I',he1,he2,hH',hO,hDj,hden'⟩
   have hg:=h2 g
   simp only [closeOut,Bool.and_eq_true,Option.isNone_iff_eq_none] at hg
   obtain ⟨⟨⟨⟨b1,b2⟩,b3⟩,b4⟩,b5⟩:=hg
   have b1:=mem_of_contains b1
   have hhid : ∀ d,d ∉ hidOf inn nw nw' → d ∉ inn ∧ (d ∈ nw → d ∈ nw'):=fun d hd=>by
     refine ⟨fun hh=>hd (List.mem_append.2 (.inl hh)),fun hh=>?_⟩
     rcases Decidable.em (d ∈ nw') with h | h
     · exact h
     · exact absurd (List.mem_append.2 (.inr (List.mem_filter.2 ⟨hh,by simpa using h⟩))) hd
   have hch : c ∉ hidOf inn nw nw':=fun hh=>by
     rcases List.mem_append.1 hh with h | h
     · exact a5 h
     · exact a4 (List.mem_filter.1 h).1
   let ρ2 : Nat → Pl:=fun d=>if d ∈ nw' then ρ' d else ρ d
   have hρ2 : ∀ d,d ∉ hidOf inn nw nw' → ρ2 d = ρ' d:=fun d hd=>by
     obtain ⟨e1,e2⟩:=hhid d hd
     show (if d ∈ nw' then ρ' d else ρ d) = ρ' d
     split
     · rfl
     · rename_i hn
       rw [hρ d (fun hh=>hn (e2 hh)),hρs d e1]
   have hBl : ∀ {d ch},lookB (Bl' g) d = some ch → lookB (Bl' g ++ Bo g) d = some ch:=fun {d ch} hd=>by rw [lookB_app,hd]
   have hBo : ∀ {d ch},lookB (Bo g) d = some ch → d ≠ c ∧ d ∉ hidOf inn nw nw' ∧ lookB (Bl' g) d = none ∧ lookB (Bl' g ++ Bo g) d = some ch:=fun {d ch} hd=>by
     have e1 : d ≠ c:=fun e=>by rw [e,b4] at hd; cases hd
     have e2:=(noneIn_get b3 hd).1
     have e3 : lookB (Bl' g) d = none:=by
       cases e : lookB (Bl' g) d with
       | none=>rfl
       | some ch' =>
         have:=mem_of_contains (List.all_eq_true.1 b2 d (keysB_mem.2 ⟨ch',e⟩))
         rcases List.mem_cons.1 this with h | h
         · exact absurd h e1
         · exact absurd h e2
     exact ⟨e1,e2,e3,by rw [lookB_app,e3]; exact hd⟩
   refine ⟨g,x,ρ2,fun d=>if d = c then (fun y=>∃ d' ch',lookB (Bl' g) d' = some ch' ∧ F' d' y) else F' d,rfl,hfr.mono fun y _ hy=>hFr y hy,fun d hd=>if_neg hd,I',he1,fun y hy=>⟨(he2 y hy).1,?_⟩,?_,?_,?_,?_⟩
   · rcases (he2 y hy).2 with h | h | h
     · exact .inl h
     · exact .inr (.inl (hFr y h))
     · exact .inr (.inr h)
   · intro d ch hd
     rw [lookB_cons] at hd
     split at hd
     · rename_i e
       injection hd with hd
       subst hd e
       simp only [if_true]
       rw [hρ2 _ hch]
       exact hout g _ _ _ _ ⟨ρ',F',rfl,fun d ch hd=>hH' d ch (hBl hd),fun d d' ch ch' b hd hd' hne=>hDj d d' ch ch' b (hBl hd) (hBl hd') hne,fun b=>Iff.rfl⟩
     · obtain ⟨e1,e2,e3,e4⟩:=hBo hd
       simp only [if_neg e1]
       rw [hρ2 d e2]
       exact Holds.stable (Ext.refl _ _) (fun _ _=>rfl) (Nat.le_refl _) ch (fun j hj=>hρ2 j (fun hji=>by rw [(noneIn_get b3 hd).2 j hji] at hj; cases hj)) (hH' d ch e4)
   · intro d ch hd y hy
     rw [lookB_cons] at hd
     split at hd
     · rename_i e
       subst e
       simp only [if_true] at hy
       obtain ⟨d',ch',h1,h2⟩:=hy
       obtain ⟨c1,c2,c3⟩:=hO d' ch' (hBl h1) y h2
       exact ⟨c1,c2,c3.imp (hFr y) id⟩
     · obtain ⟨e1,e2,e3,e4⟩:=hBo hd
       simp only [if_neg e1] at hy
       obtain ⟨c1,c2,c3⟩:=hO d ch e4 y hy
       exact ⟨c1,c2,c3.imp (hFr y) id⟩
   · intro d d' ch ch' y hd hd' hne hy hy'
     rw [lookB_cons] at hd hd'
     split at hd
     · rename_i e
       subst e
       rw [if_neg hne] at hd'
       obtain ⟨e1,e2,e3,e4⟩:=hBo hd'
       simp only [if_true] at hy
       simp only [if_neg e1] at hy'
       obtain ⟨d1,ch1,h1,h2⟩:=hy
       exact hDj d1 d' ch1 ch' y (hBl h1) e4 (fun e=>by rw [e,e3] at h1; cases h1) h2 hy'
     · obtain ⟨e1,e2,e3,e4⟩:=hBo hd
       simp only [if_neg e1] at hy
       split at hd'
       · rename_i e
         subst e
         simp only [if_true] at hy'
         obtain ⟨d1,ch1,h1,h2⟩:=hy'
         exact hDj d d1 ch ch1 y e4 (hBl h1) (fun e=>by rw [← e,e3] at h1; cases h1) hy h2
       · obtain ⟨e1',e2',e3',e4'⟩:=hBo hd'
         simp only [if_neg e1'] at hy'
         exact hDj d d' ch ch' y e4 e4' hne hy hy'
   · exact DenV.mono (Ext.refl _ _) (res g) x (fun j hj=>hρ2 j (fun hji=>by
       have:=List.all_eq_true.1 b5 j hji
       rw [hj] at this
       cases this)) hden'
/-- Other numbers within. -/
theorem grpR.ofRn {f g : Nat → Nat} (hgf : ∀ c,g (f c) = c) (hfg : ∀ c,f (g c) = c) {c : Nat} {Bl : BL} {I F : Nat → Prop} {w : World} {p : Pl} (h : grpR c Bl I F w p) : grpR (f c) (rnB f Bl) I F w p:=by
 obtain ⟨ρ,G,h1,h2,h3,h4⟩:=h
 have hl : ∀ {d ch},lookB (rnB f Bl) d = some ch → ∃ ch0,lookB Bl (g d) = some ch0 ∧ ch = ch0.rn f:=fun {d ch} hd=>by
   rw [← hfg d,lookB_rnB hgf] at hd
   obtain ⟨ch0,e1,e2⟩:=Option.map_eq_some_iff.1 hd
   exact ⟨ch0,e1,e2.symm⟩
 refine ⟨fun d=>ρ (g d),fun d=>G (g d),by simp only [hgf]; exact h1,fun d ch hd=>?_,fun d d' ch ch' b hd hd' hne=>?_,fun b=>?_⟩
 · obtain ⟨ch0,e1,rfl⟩:=hl hd
   rw [Holds_rn]
   simp only [hgf]
   exact h2 _ _ e1
 · obtain ⟨ch0,e1,_⟩:=hl hd
   obtain ⟨ch1,e2,_⟩:=hl hd'
   exact h3 _ _ _ _ b e1 e2 (fun e=>hne (by rw [← hfg d,← hfg d',e]))
 · rw [h4]
   constructor
   · rintro ⟨d,ch,e1,e2⟩
     exact ⟨f d,ch.rn f,by rw [lookB_rnB hgf,e1]; rfl,by simp only [hgf]; exact e2⟩
   · rintro ⟨d,ch,e1,e2⟩
     obtain ⟨ch0,e3,_⟩:=hl e1
     exact ⟨g d,ch0,e3,e2⟩
/-- .. by pairs. -/
theorem grpR.ren (l : List (Nat × Nat)) {c : Nat} {Bl : BL} {I F : Nat → Prop} {w : World} {p : Pl} (h : grpR c Bl I F w p) : grpR (rn (mkRn l []) c) (rnB (rn (mkRn l [])) Bl) I F w p :=
 h.ofRn (g:=rnI (mkRn l [])) (rnI_rn _) (rn_rnI _)
/-- The blocks of another order,or that more is said of. -/
theorem grpR.sub {c : Nat} {Bl Bl' : BL} {I F : Nat → Prop} {w : World} {p : Pl} (h : grpR c Bl I F w p) (h1 : ∀ d ch,lookB Bl d = some ch ↔ lookB Bl' d = some ch) : grpR c Bl' I F w p:=by
 obtain ⟨ρ,G,e1,e2,e3,e4⟩:=h
 exact ⟨ρ,G,e1,fun d ch hd=>e2 d ch ((h1 d ch).2 hd),fun d d' ch ch' b hd hd'=>e3 d d' ch ch' b ((h1 d ch).2 hd) ((h1 d' ch').2 hd'),fun b=>(e4 b).trans ⟨fun ⟨d,ch,a,b⟩=>⟨d,ch,(h1 d ch).1 a,b⟩,fun ⟨d,ch,a,b⟩=>⟨d,ch,(h1 d ch).2 a,b⟩⟩⟩
section
variable {ids : List Nat} {K : KL} {B : BL}
/-- A block's address,named. -/
theorem LeX.name (s c : Nat) {o : Ob} (hs : look K s = .c (.one (.ptr c 0))) (hc : lookB B c = some (.obj o)) : LeX ids K B (fun b : Nat=>(s,.c (.one (.d (.adr (some b))))) :: K) (fun b=>(c,.obj (o.at b)) :: B):=by
 rintro N C a w ⟨hn,hd,ρ,F,hM,hS⟩
 obtain ⟨hM',hE⟩:=hM.turn (w':=w) (ch:=.obj (o.at (ρ c).blk)) hc (Fr.refl _ _) fun I hI=>⟨rfl,Holds.stable (ρ':=ρ) hI (fun _ _=>rfl) (Nat.le_refl _) (.obj o) (fun _ _=>rfl) (hM.holds c _ hc)⟩
 refine ⟨(ρ c).blk,hn,hd,ρ,F,hM',fun t=>?_⟩
 rw [look_cons]
 split
 · rename_i e
   subst e
   have:=hS s
   rw [hs] at this
   exact this
 · exact hS.mono hE (fun _ _ _=>rfl) t
/-- An object,put into a pool. -/
theorem Le.put (q c : Nat) {o : Ob} {b : Nat} {L : List (Nat × Ob)} (hne : c ≠ q) (hq : lookB B q = some (.obj (.pool L))) (hc : lookB B c = some (.obj (o.at b))) : Le ids K B K ((q,.obj (.pool ((b,o) :: L))) :: dropB B c):=by
 rintro N C a w ⟨hn,hd,ρ,F,hM,hS⟩
 have hP : poolR _ _ L (F q):=hM.holds q _ hq
 have hO : (ρ c).blk = b ∧ o.R _ (F c) w (ρ c):=hM.holds c _ hc
 obtain ⟨rfl,hO⟩:=hO
 have hdj : ∀ x,F c x → ¬ F q x:=fun x hx hx'=>hM.disj c q _ _ x hc hq hne hx hx'
 obtain ⟨hM',hE⟩:=hM.step (B':=(q,.obj (.pool (((ρ c).blk,o) :: L))) :: dropB B c) (ρ':=ρ) (F':=upd F q (fun x=>F c x ∨ F q x)) (w':=w) (fun d=>d = c ∨ d = q) (fun _=>False) (Fr.refl _ _)
   (fun d ch hd hm=>by
     rw [lookB_cons,if_neg (fun e=>hm (.inr e.symm)),lookB_dropB,if_neg (fun e=>hm (.inl e.symm))] at hd
     exact hd)
   (fun _ _=>rfl) (fun d hm=>upd_other _ _ (fun e=>hm (.inr e))) (fun _ _ h=>h) (fun _ h=>h.elim) (fun _ _ _ _ _ _ h=>h)
   (fun d ch hd hm hE=>by
     rw [lookB_cons] at hd
     split at hd
     · rename_i e
       subst e
       injection hd with hd
       subst hd
       rw [upd_same]
       exact poolR.add (hP.stable hE (Nat.le_refl _) (fun _ _=>rfl)) (o.stable _ _ _ _ _ _ hO hE (fun _ _=>rfl) (Nat.le_refl _)) hdj
     · rename_i e
       rcases hm with rfl | rfl
       · rw [lookB_dropB,if_pos rfl] at hd; cases hd
       · exact absurd rfl e)
   (fun d ch hd hm x hx=>by
     rw [lookB_cons] at hd
     split at hd
     · rename_i e
       subst e
       rw [upd_same] at hx
       rcases hx with hx | hx
       · exact ⟨(hM.own c _ hc x hx).1,.inl ⟨c,_,hc,.inl rfl,hx⟩⟩
       · exact ⟨(hM.own q _ hq x hx).1,.inl ⟨q,_,hq,.inr rfl,hx⟩⟩
     · rename_i e
       rcases hm with rfl | rfl
       · rw [lookB_dropB,if_pos rfl] at hd; cases hd
       · exact absurd rfl e)
   (fun d d' ch ch' x hd hd' hm hm' hne'=>by
     have key : ∀ d ch,lookB ((q,Ch.obj (.pool (((ρ c).blk,o) :: L))) :: dropB B c) d = some ch → (d = c ∨ d = q) → d = q:=fun d ch hd hm=>by
       rcases hm with rfl | rfl
       · rw [lookB_cons,if_neg (Ne.symm hne),lookB_dropB,if_pos rfl] at hd; cases hd
       · rfl
     exact absurd ((key d ch hd hm).trans (key d' ch' hd' hm').symm) hne')
 exact ⟨hn,hd,ρ,_,hM',hS.mono hE fun _ _ _=>rfl⟩
def dropBs : List Nat → BL → BL
 | [],B=>B
 | c :: l,B=>dropBs l (dropB B c)
theorem lookB_dropBs : ∀ (l : List Nat) (B : BL) (d : Nat),lookB (dropBs l B) d = if d ∈ l then none else lookB B d
 | [],B,d=>by simp [dropBs]
 | c :: l,B,d=>by
   rw [dropBs,lookB_dropBs l,lookB_dropB]
   by_cases h : d ∈ l
   · rw [if_pos h,if_pos (List.mem_cons_of_mem _ h)]
   · rw [if_neg h]
     by_cases e : c = d
     · subst e; rw [if_pos rfl,if_pos (List.mem_cons_self ..)]
     · rw [if_neg e,if_neg]
       intro hh
       rcases List.mem_cons.1 hh with rfl | hh
       · exact e rfl
       · exact h hh
/-- Blocks,taken as the object that they are. -/
theorem Le.close (c : Nat) (Bl : BL) {o : Ob} (hB : subB B Bl) (hc : (keysB Bl).contains c = true) (ho : ∀ I F w p,grpR c Bl I F w p → o.R I F w p) : Le ids K B K ((c,.obj o) :: dropBs (keysB Bl) B):=by
 rintro N C a w ⟨hn,hd,ρ,F,hM,hS⟩
 have hc:=mem_of_contains hc
 have hl : ∀ {d ch},lookB Bl d = some ch → lookB B d = some ch:=fun {d ch} h=>subB_get hB h
 have hdead : ∀ {d ch},lookB ((c,Ch.obj o) :: dropBs (keysB Bl) B) d = some ch → d ∈ keysB Bl → d = c ∧ ch = .obj o:=fun {d ch} hd hm=>by
   rw [lookB_cons] at hd
   split at hd
   · rename_i e; injection hd with hd; exact ⟨e.symm,hd.symm⟩
   · rw [lookB_dropBs,if_pos hm] at hd; cases hd
 obtain ⟨hM',hE⟩:=hM.step (B':=(c,.obj o) :: dropBs (keysB Bl) B) (ρ':=ρ) (F':=fun d=>if d ∈ keysB Bl then (fun x=>∃ d ch,lookB Bl d = some ch ∧ F d x) else F d) (w':=w) (fun d=>d ∈ keysB Bl) (fun _=>False) (Fr.refl _ _)
   (fun d ch hd hm=>by
     have hne : c ≠ d:=fun e=>hm (by rw [← e]; exact hc)
     rw [lookB_cons,if_neg hne,lookB_dropBs,if_neg hm] at hd
     exact hd)
   (fun _ _=>rfl) (fun d hm=>if_neg hm) (fun _ _ h=>h) (fun _ h=>h.elim) (fun _ _ _ _ _ _ h=>h)
   (fun d ch hd hm hE=>by
     obtain ⟨rfl,rfl⟩:=hdead hd hm
     simp only [if_pos hm]
     exact ho _ _ _ _ ⟨ρ,F,rfl,fun d ch h=>Holds.stable hE (fun _ _=>rfl) (Nat.le_refl _) ch (fun _ _=>rfl) (hM.holds d ch (hl h)),fun d d' ch ch' b h h' hne=>hM.disj d d' ch ch' b (hl h) (hl h') hne,fun b=>Iff.rfl⟩)
   (fun d ch hd hm x hx=>by
     simp only [if_pos hm] at hx
     obtain ⟨d',ch',h1,h2⟩:=hx
     exact ⟨(hM.own d' ch' (hl h1) x h2).1,.inl ⟨d',ch',hl h1,keysB_mem.2 ⟨ch',h1⟩,h2⟩⟩)
   (fun d d' ch ch' x hd hd' hm hm' hne=>absurd ((hdead hd hm).1.trans (hdead hd' hm').1.symm) hne)
 exact ⟨hn,hd,ρ,_,hM',hS.mono hE fun _ _ _=>rfl⟩
/-- A pool of none. -/
theorem Le.emp (q : Nat) (hf : freshB ids K B q = true) : Le ids K B K ((q,.obj (.pool [])) :: B):=by
 rintro N C a w ⟨hn,hd,ρ,F,hM,hS⟩
 have hfr:=fresh_of hf
 obtain ⟨hM',hE⟩:=hM.make hf (Below.refl _ w) (ρ q) (fun _=>False) (fun _ h=>h.elim) (ch:=.obj (.pool [])) fun I _ _=>fun b h=>h
 exact ⟨hn,hd,_,_,hM',hS.mono hE fun s d hd=>upd_other _ _ (fun e=>by subst e; rw [hfr.1 s] at hd; cases hd)⟩
end
end Go.Proofs.YteoamepgonpdlaaGreat
/-!
  Words that several chapters share.
-/
namespace Go.Proofs.YteoamepgonpdlaaGreat
set_option linter.unusedVariables false
set_option linter.unusedSimpArgs false
open Go.RowKit
@[reducible] def uI : U:=.int .i64
@[reducible] def vNilP : SC:=.one (.raw (.pointer none))
@[reducible] def vErr (n : Int) : SC:=.one (.d (.int .i64 n))
@[reducible] def vU : SV:=.tup []
@[reducible] def vAd (b : Nat) : SV:=.c (.one (.d (.adr (some b))))
theorem lgAt {α : Type} {L : List α} {n : Nat} (h : n < L.length) : lget L n = some L[n]:=List.getElem?_eq_getElem h
theorem lgetAt {α : Type} {L : List α} {n : Nat} (h : n < L.length) : lget L n = some L[n]:=List.getElem?_eq_getElem h
/-- A contract on blocks laid open,as one on the object that they are (nothing is made known). -/
theorem Fn.close {P : Program} {f : FuncId} {c : Nat} {args : List SV} {Bl Bi : BL} {nw nw' : List Nat} {res : SV} {Bl' Bo : BL} {o o' : Ob} (inn : List Nat)
   (h : Fn P f args (Bl ++ Bi) nw res (Bl' ++ Bo)) (hin : ∀ I F w p,o.R I F w p → grpR c Bl I F w p) (hout : ∀ I F w p,grpR c Bl' I F w p → o'.R I F w p)
   (h1 : closeIn c inn args Bl Bi nw nw' = true) (h2 : closeOut c (hidOf inn nw nw') res Bl' Bo = true) :
   Fn P f args ((c,.obj o) :: Bi) nw' res ((c,.obj o') :: Bo) :=
 (FnX.close (Bl:=Bl) (Bl':=fun _ : Unit=>Bl') (Bo:=fun _=>Bo) (o:=o) (o':=fun _=>o') inn h.x hin (fun _=>hout) h1 (fun _=>h2)).fn
/-- An object that is one of several,whichever. -/
theorem Fn.openEx {P : Program} {f : FuncId} {args : List SV} {c : Nat} {Bi : BL} {nw : List Nat} {res : SV} {Bo : BL} {o : Ob} {Y : Type} {oy : Y → Ob} (hc : callable P f = true) (ho : ∀ I F w p,o.R I F w p → ∃ y,(oy y).R I F w p)
   (h : ∀ y,Fn P f args ((c,.obj (oy y)) :: Bi) nw res Bo) : Fn P f args ((c,.obj o) :: Bi) nw res Bo:=by
 refine ⟨hc,fun ρ F I w vals a1 a2 a3 a4 a5 a6=>?_⟩
 have hl : lookB ((c,Ch.obj o) :: Bi) c = some (.obj o):=by rw [lookB_cons,if_pos rfl]
 obtain ⟨y,hy⟩:=ho _ _ _ _ (a2 c _ hl)
 have key : ∀ d ch,lookB ((c,Ch.obj (oy y)) :: Bi) d = some ch → (d = c ∧ ch = .obj (oy y)) ∨ lookB ((c,Ch.obj o) :: Bi) d = some ch:=fun d ch hd=>by
   rw [lookB_cons] at hd
   split at hd
   · rename_i e; injection hd with hd; exact .inl ⟨e.symm,hd.symm⟩
   · rename_i e; exact .inr (by rw [lookB_cons,if_neg e]; exact hd)
 have key2 : ∀ d ch,lookB ((c,Ch.obj (oy y)) :: Bi) d = some ch → ∃ ch0,lookB ((c,Ch.obj o) :: Bi) d = some ch0:=fun d ch hd=>by
   rcases key d ch hd with ⟨e,_⟩ | h
   · rw [e]
     exact ⟨_,hl⟩
   · exact ⟨_,h⟩
 have key3 : ∀ d ch,lookB ((c,Ch.obj o) :: Bi) d = some ch → ∃ ch0,lookB ((c,Ch.obj (oy y)) :: Bi) d = some ch0:=fun d ch hd=>by
   rw [lookB_cons] at hd ⊢
   split at hd
   · rename_i e; exact ⟨_,by rw [if_pos e]⟩
   · rename_i e; exact ⟨ch,by rw [if_neg e]; exact hd⟩
 have hF : ∀ b,(∃ d ch,lookB ((c,Ch.obj (oy y)) :: Bi) d = some ch ∧ F d b) ↔ ∃ d ch,lookB ((c,Ch.obj o) :: Bi) d = some ch ∧ F d b:=fun b =>
   ⟨fun ⟨d,ch,h1,h2⟩=>let ⟨ch0,h⟩:=key2 d ch h1; ⟨d,ch0,h,h2⟩,fun ⟨d,ch,h1,h2⟩=>let ⟨ch0,h⟩:=key3 d ch h1; ⟨d,ch0,h,h2⟩⟩
 refine ((h y).2 ρ F I w vals a1 (fun d ch hd=>?_) (fun d ch hd b hb=>?_) (fun d d' ch ch' b h1 h2=>?_) a5 a6).mono ?_
 · rcases key d ch hd with ⟨rfl,rfl⟩ | h
   · exact hy
   · exact a2 d ch h
 · obtain ⟨ch0,h⟩:=key2 d ch hd
   exact a3 d ch0 h b hb
 · obtain ⟨c0,g1⟩:=key2 d ch h1
   obtain ⟨c1,g2⟩:=key2 d' ch' h2
   exact a4 d d' c0 c1 b g1 g2
 · rintro e w' ⟨x,ρ',F',r1,r2,r3,I',r4,r5,r6,r7,r8,r9⟩
   refine ⟨x,ρ',F',r1,r2.mono fun b _ hb=>(hF b).1 hb,r3,I',r4,fun b hb=>⟨(r5 b hb).1,(r5 b hb).2.imp id (Or.imp (hF b).1 id)⟩,r6,fun d ch hd b hb=>?_,r8,r9⟩
   obtain ⟨g1,g2,g3⟩:=r7 d ch hd b hb
   exact ⟨g1,g2,g3.imp (hF b).1 id⟩
end Go.Proofs.YteoamepgonpdlaaGreat
/-!
  Contracts that make something known: other numbers. What a pool tells of its addresses.
-/
namespace Go.Proofs.YteoamepgonpdlaaGreat
set_option linter.unusedVariables false
set_option linter.unusedSimpArgs false
open Go.RowKit
theorem FnX.rn' {P : Program} {fn : FuncId} {f g : Nat → Nat} (hg : ∀ c,g (f c) = c) (hf : ∀ c,f (g c) = c) {args : List SV} {Bi : BL} {nw : List Nat} {X : Type} {res : X → SV} {Bo : X → BL} (h : FnX P fn args Bi nw res Bo) :
   FnX P fn (rnVL f args) (rnB f Bi) (rnN f nw) (fun x=>(res x).rn f) (fun x=>rnB f (Bo x)):=by
 refine ⟨h.1,?_⟩
 intro ρ F I w vals hI hH hF hdj hlen hden
 have lk : ∀ (B : BL) c,lookB (rnB f B) (f c) = (lookB B c).map (·.rn f):=lookB_rnB hg
 have fwd : ∀ {B : BL} {c ch},lookB B c = some ch → lookB (rnB f B) (f c) = some (ch.rn f):=fun {B c ch} h=>by rw [lk,h]; rfl
 have bwd : ∀ {B : BL} {c ch},lookB (rnB f B) c = some ch → ∃ ch0,lookB B (g c) = some ch0 ∧ ch = ch0.rn f:=fun {B c ch} h=>by
   have e:=lk B (g c)
   rw [hf,h] at e
   obtain ⟨ch0,h1,h2⟩:=Option.map_eq_some_iff.1 e.symm
   exact ⟨ch0,h1,h2.symm⟩
 rw [rnVL_map] at hlen hden
 have hc:=h.2 (fun c=>ρ (f c)) (fun c=>F (f c)) I w vals hI
   (fun c ch hc=>by rw [← Holds_rn]; exact hH _ _ (fwd hc))
   (fun c ch hc=>hF _ _ (fwd hc))
   (fun c c' ch ch' b h1 h2 hne=>hdj _ _ _ _ b (fwd h1) (fwd h2) fun e=>hne (by rw [← hg c,e,hg]))
   (by simpa using hlen)
   (fun i v x hv hx=>by rw [← DenV_rn]; exact hden i _ x (by rw [List.getElem?_map,hv]; rfl) hx)
 refine hc.mono ?_
 rintro e w' ⟨y,x,ρ',F',rfl,hfr,hρ,I',he1,he2,hH',hO,hDj,hx⟩
 have hback : (fun c=>ρ' (g (f c))) = ρ':=funext fun c=>by rw [hg]
 refine ⟨y,x,fun c=>ρ' (g c),fun c=>F' (g c),rfl,?_,?_,I',he1,?_,?_,?_,?_,?_⟩
 · exact hfr.mono fun b _ ⟨c,ch,h1,h2⟩=>⟨f c,_,fwd h1,h2⟩
 · intro c hc
   show ρ' (g c) = ρ c
   rw [hρ (g c) (fun hm=>hc (by have:=rnN_mem (f:=f) _ _ hm; rwa [hf] at this)),hf]
 · intro b hb
   obtain ⟨h1,h2⟩:=he2 b hb
   refine ⟨h1,?_⟩
   rcases h2 with h2 | ⟨c,ch,h2,h3⟩ | h2
   · exact .inl h2
   · exact .inr (.inl ⟨f c,_,fwd h2,h3⟩)
   · exact .inr (.inr h2)
 · intro c ch hc
   obtain ⟨ch0,h1,rfl⟩:=bwd hc
   rw [Holds_rn,hback]
   exact hH' _ _ h1
 · intro c ch hc b hb
   obtain ⟨ch0,h1,rfl⟩:=bwd hc
   obtain ⟨q1,q2,q3⟩:=hO _ _ h1 b hb
   refine ⟨q1,q2,?_⟩
   rcases q3 with ⟨c0,ch0,q3,q4⟩ | q3
   · exact .inl ⟨f c0,_,fwd q3,q4⟩
   · exact .inr q3
 · intro c c' ch ch' b hc hc' hne
   obtain ⟨ch0,h1,rfl⟩:=bwd hc
   obtain ⟨ch1,h2,rfl⟩:=bwd hc'
   exact hDj _ _ _ _ b h1 h2 fun e=>hne (by rw [← hf c,e,hf])
 · rw [DenV_rn,hback]
   exact hx
theorem FnX.ren {P : Program} {fn : FuncId} (l : List (Nat × Nat)) {args : List SV} {Bi : BL} {nw : List Nat} {X : Type} {res : X → SV} {Bo : X → BL} (h : FnX P fn args Bi nw res Bo) :
   FnX P fn (rnVL (rn (mkRn l [])) args) (rnB (rn (mkRn l [])) Bi) (rnN (rn (mkRn l [])) nw) (fun x=>(res x).rn (rn (mkRn l []))) (fun x=>rnB (rn (mkRn l [])) (Bo x)) :=
 FnX.rn' (rnI_rn _) (rn_rnI _) h
/-- An object that has the block it begins with. -/
def Ob.anch (o : Ob) : Prop:=∀ I F w p,o.R I F w p → F p.blk
theorem poolR_in {I : Nat → Prop} {w : World} {b : Nat} : ∀ {L : List (Nat × Ob)} {F : Nat → Prop},(∀ p ∈ L,p.2.anch) → poolR I w L F → b ∈ L.map (·.1) → F b
 | [],_,_,_,h=>by cases h
 | p :: L,F,ha,⟨F1,F2,q,h1,h2,h3,h4,h5⟩,h=>by
   rcases List.mem_cons.1 h with h | h
   · exact (h1 b).2 (.inl (by rw [h]; have:=ha p (List.mem_cons_self ..) _ _ _ _ h4; rwa [h3] at this))
   · exact (h1 b).2 (.inr (poolR_in (fun p hp=>ha p (List.mem_cons_of_mem _ hp)) h5 h))
theorem poolR_nodup {I : Nat → Prop} {w : World} : ∀ {L : List (Nat × Ob)} {F : Nat → Prop},(∀ p ∈ L,p.2.anch) → poolR I w L F → (L.map (·.1)).Nodup
 | [],_,_,_=>List.nodup_nil
 | p :: L,F,ha,⟨F1,F2,q,h1,h2,h3,h4,h5⟩=>by
   have ha' : ∀ p ∈ L,p.2.anch:=fun p hp=>ha p (List.mem_cons_of_mem _ hp)
   rw [List.map_cons]
   refine List.nodup_cons.2 ⟨fun hm=>?_,poolR_nodup ha' h5⟩
   have e1:=ha p (List.mem_cons_self ..) _ _ _ _ h4
   rw [h3] at e1
   exact h2 _ e1 (poolR_in ha' h5 hm)
/-- A pool's addresses differ. -/
theorem LeX.poolNd {ids : List Nat} {K : KL} {B : BL} (q : Nat) {L : List (Nat × Ob)} (ha : ∀ p ∈ L,p.2.anch) (hq : lookB B q = some (.obj (.pool L))) : LeX ids K B (X:=PLift ((L.map (·.1)).Nodup)) (fun _=>K) (fun _=>B):=by
 rintro N C a w ⟨hn,hd,ρ,F,hM,hS⟩
 have hP : poolR (Imm C B F w) w L (F q):=hM.holds q _ hq
 exact ⟨⟨poolR_nodup ha hP⟩,hn,hd,ρ,F,hM,hS⟩
end Go.Proofs.YteoamepgonpdlaaGreat
