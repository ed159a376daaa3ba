/-
A part of the proof of this claim: lemmas, with no condition beyond what each says.
-/
import Derived.WalkKit
import Derived.WalkSpells
import Derived.WalkLawsBesides
import Derived.BigQuiet
import Derived.Deep.QuietTactic
import Derived.Deep.RegionHeld3
import Derived.Deep.AppendLies
import Derived.Deep.DrawnRows
import Derived.Maps.AppendAt
import Derived.Laws.CopyOwn
import Derived.Lib.ConvBytes
import Derived.Lib.Hide
import Derived.RangeFuncRecord
import Derived.OrdersIn
import Derived.TacticsIn
import Derived.Sort.LoopGhostIn
import Derived.MapKept
import Derived.ChangeMaps4
import Derived.Deep.MidRow
import Derived.Great.BuildSlice
import Derived.Laws.Small
import Derived.Lib.Strings
import Derived.Lib.AppendStr
set_option linter.all false
set_option maxRecDepth 100000
set_option maxHeartbeats 0
namespace Go.Proofs.YtgclhiekndohdaaGreat
abbrev gd:=@of_decide_eq_true
abbrev mu:=@if_neg
abbrev oj:=@of_decide_eq_false
abbrev vj:=@if_pos
abbrev as7:=@List.getElem?_eq_getElem
abbrev as8:=@Bool.and_eq_true
abbrev as9:=@List.length_append
abbrev at0:=@Nat.le_refl
abbrev at1:=@absurd
abbrev at2:=@congrArg
abbrev at3:=@List.getD_eq_getElem?_getD
abbrev at4:=@List.mem_cons_of_mem
abbrev at5:=@Option.some.injEq
abbrev at6:=@Nat.zero_le
abbrev at7:=@List.mem_cons
abbrev at8:=@Nat.eq_of_beq_eq_true
abbrev at9:=@List.length_take
abbrev au0:=@List.getElem?_eq_some_iff
abbrev au1:=@decide_eq_true
abbrev au2:=@List.length_replicate
abbrev au3:=@List.length_map
abbrev au4:=@List.getElem?_cons_zero
abbrev au5:=@List.mem_singleton
abbrev au6:=@Result.andThen_ok
abbrev au7:=@List.mem_cons_self
abbrev au8:=@Nat.lt_of_lt_of_le
abbrev au9:=@List.map_cons
abbrev av0:=@List.take_length
abbrev av1:=@List.getElem?_map
abbrev av2:=@List.append_nil
abbrev av3:=@Bool.not_eq_true'
abbrev av4:=@List.all_eq_true
abbrev av5:=@List.getElem_mem
abbrev av6:=@List.contains_iff_mem
abbrev av7:=@List.mem_map
abbrev av8:=@List.getElem?_append_left
abbrev av9:=@List.mem_append
abbrev aw0:=@decide_eq_true_eq
abbrev aw1:=@List.mem_map_of_mem
abbrev aw2:=@List.map_congr_left
abbrev aw3:=@Sem.run_bind
abbrev aw4:=@List.getElem?_append_right
abbrev aw5:=@List.eq_nil_of_length_eq_zero
abbrev aw6:=@List.nodup_cons
abbrev aw7:=@List.length_cons
abbrev aw8:=@List.append_assoc
abbrev aw9:=@Option.isSome_iff_exists
abbrev ax0:=@Option.map_eq_some_iff
abbrev ax1:=@Sem.run_pure
abbrev ax2:=@decide_eq_false
abbrev ax3:=@List.take_of_length_le
abbrev ax4:=@List.getElem?_set_ne
abbrev ax5:=@Bool.or_eq_false_iff
abbrev ax6:=@Nat.zero_add
abbrev ax7:=@List.map_map
abbrev ax8:=@List.length_drop
abbrev ax9:=@Decidable.byContradiction
abbrev ay0:=@List.mem_of_getElem?
abbrev ay1:=@Nat.le_trans
abbrev ay2:=@List.take_succ_eq_append_getElem
abbrev ay3:=@List.length_set
abbrev ay4:=@Array.toList_inj
abbrev ay5:=@List.getElem?_take
abbrev ay6:=@List.map_append
abbrev ay7:=@List.getElem?_set_self
abbrev ay8:=@Nat.mul_le_mul
abbrev ay9:=@Bool.or_eq_true
abbrev az0:=@Prod.mk.injEq
abbrev az1:=@MapKept.run_getObj_map
abbrev az2:=@Ne.symm
abbrev az3:=@Option.map_some
abbrev az4:=@List.nodup_nil
abbrev az5:=@Option.getD_some
abbrev az6:=@Nat.mul_le_mul_right
abbrev az7:=@Array.getElem?_setIfInBounds_ne
abbrev az8:=@Int.toNat_natCast
abbrev az9:=@Array.getD_eq_getD_getElem?
abbrev aA0:=@Nat.add_zero
abbrev aA1:=@List.getElem?_set
abbrev aA2:=@Nat.le_of_ble_eq_true
abbrev aA3:=@List.getElem?_eq_none
abbrev aA4:=@List.drop_eq_getElem_cons
abbrev aA5:=@List.getElem_of_mem
abbrev aA6:=@Nat.succ_mul
abbrev aA7:=@Bool.eq_false_iff
abbrev aA8:=@Array.getElem?_eq_some_iff
abbrev aA9:=@Nat.div_lt_iff_lt_mul
abbrev aB0:=@Nat.pow_le_pow_right
abbrev aB1:=@List.take_add_one
abbrev aB2:=@List.ext_getElem?
abbrev aB3:=@Int.natCast_mul
abbrev aB4:=@List.getElem?_replicate
abbrev aB5:=@Array.mem_append
abbrev aB6:=@Bool.true_and
abbrev aB7:=@Nat.mul_comm
abbrev aB8:=@Nat.lt_or_ge
abbrev aB9:=@List.foldl_append
abbrev aC0:=@Array.mem_toList_iff
abbrev aC1:=@List.mem_filter
abbrev aC2:=@Nat.eq_zero_or_pos
abbrev aC3:=@List.getElem?_drop
abbrev aC4:=@List.getElem?_cons_succ
abbrev aC5:=@Nat.mul_left_comm
abbrev aC6:=@List.getElem?_eraseIdx
abbrev aC7:=@Nat.not_lt_zero
abbrev aC8:=@Option.isNone_iff_eq_none
abbrev aC9:=@List.map_nil
abbrev aD0:=@List.flatMap_cons
abbrev aD1:=@Int.eq_ofNat_of_zero_le
abbrev aD2:=@Int.ediv_nonneg
abbrev aD3:=@List.mem_of_find?_eq_some
abbrev aD4:=@List.nil_append
abbrev aD5:=@Int.ediv_le_ediv
abbrev aD6:=@Bool.not_eq_true
def aD7 {p:Prop} (h:p:=by omega):p:=h
def aD8 {p:Prop} (h:p:=by decide):p:=h
def aD9 {p:Prop} (h:p:=by simp):p:=h
def aE0 {p:Prop} (h:p:=by kernel_rfl):p:=h
def aE1 {p:Prop} (h:p:=by rfl):p:=h
def aE3 {p:Prop} (h:p:=by assumption):p:=h
def aE4 {p:Prop} (h:p:=by rw[ai];simp[Op.operands]):p:=h
def aE5 {p:Prop} (h:p:=by omega):p:=h
def aE6 {p:Prop} (h:p:=by simpa using h):p:=h
def aE7 {p:Prop} (h:p:=by cases h):p:=h
def aE8 {p:Prop} (h:p:=by rw[ai];simp[Op.operands,Call.operands]):p:=h
def aE9 {p:Prop} (h:p:=by exact aA):p:=h
def aF0 {p:Prop} (h:p:=by rw[at9];omega):p:=h
def aF1 {p:Prop} (h:p:=by unfold b7;rw[H]):p:=h
def aF2 {p:Prop} (h:p:=by rw[hx];intro h;cases h):p:=h
def aF3 {p:Prop} (h:p:=by rw[h'];intro h;cases h):p:=h
def aF4 {p:Prop} (h:p:=by rw[he];decide):p:=h
def aF5 {p:Prop} (h:p:=by simp;omega):p:=h
def aF6 {p:Prop} (h:p:=by have:=oj J;omega):p:=h
def aF7 {p:Prop} (h:p:=by have:=gd J;omega):p:=h
def aF8 {p:Prop} (h:p:=by simpa using V):p:=h
def aF9 {p:Prop} (h:p:=by rw[co,vj rfl]):p:=h
def aG0 {p:Prop} (h:p:=by simpa using aB):p:=h
def aG1 {p:Prop} (h:p:=by simp[bA.has,Nat.beq_eq]):p:=h
def aG2 {p:Prop} (h:p:=by rw[jA,ar];rfl):p:=h
def aG3 {p:Prop} (h:p:=by exact nI hx):p:=h
def aG4 {p:Prop} (h:p:=by rw[cA];omega):p:=h
def aG5 {p:Prop} (h:p:=by simp[aR] at V;exact V):p:=h
def aG6 {p:Prop} (h:p:=by rw[h.eq.ez];exact J):p:=h
def aG7 {p:Prop} (h:p:=by simpa using hx):p:=h
def aG8 {p:Prop} (h:p:=by simp[U]):p:=h
def aG9 {p:Prop} (h:p:=by simpa using E):p:=h
def aH0 {p:Prop} (h:p:=by simp only[maxLen];omega):p:=h
def aH1 {p:Prop} (h:p:=by simp at h;omega):p:=h
def aH2 {p:Prop} (h:p:=by rw[af];generalize 2 ^z=P at*;omega):p:=h
abbrev aH3:=List UInt8
abbrev aH4:=List Nat
abbrev aH7:=List Value
abbrev aH8:=List (Nat×aH3)
abbrev aH9:=World
abbrev aI0:=Program
abbrev aI2:=Operand
abbrev aI3:=TypeId
abbrev aI4:=Option Nat
abbrev aI7:=List Int
abbrev aI8:=Value
abbrev aI9:=FuncId
abbrev aJ0:=List Oper
abbrev aJ1:=List MapEntry
abbrev aJ3:=TypeInfo
abbrev aJ4:=TypeDesc
abbrev aJ5:=List aH3
abbrev aJ6:=Array Value
abbrev aJ7:=ByteArray
abbrev aJ8:=List Operand
abbrev aJ9:=Nat×Nat
abbrev aK0:=List (Nat×Nat)
end Go.Proofs.YtgclhiekndohdaaGreat
namespace Go.Proofs.YtgclhiekndohdaaGreat
open Go.RowKit Go.Proofs
section
structure cU (S:Nat->Prop) (w w':aH9):Prop where
 os:w'.os=w.os
 tape:w'.tape=w.tape
 output:w'.output=w.output
 size:w.heap.size<=w'.heap.size
 block: ∀k,k < w.heap.size-> ¬S k->w'.heap[k]? =w.heap[k]?
def cU.refl (S:Nat->Prop) (w:aH9):cU S w w:=⟨rfl,rfl,rfl,at0 _,fun _ _ _=>rfl⟩
def cU.trans {S:Nat->Prop} {a b c:aH9} (h:cU S a b) {S':Nat->Prop} (k:cU S' b c) (aw: ∀i,i < a.heap.size->S' i->S i):cU S a c:=
 ⟨k.os.trans h.os,k.tape.trans h.tape,k.output.trans h.output,ay1 h.size k.size,
  fun i hi hn=>(k.block i (au8 hi h.size) (fun x=>hn (aw i hi x))).trans (h.block i hi hn)⟩
def cU.mono {S S':Nat->Prop} {w w':aH9} (h:cU S w w') (aw: ∀i,i < w.heap.size->S i->S' i):cU S' w w':=
 ⟨h.os,h.tape,h.output,h.size,fun i hi hn=>h.block i hi (fun x=>hn (aw i hi x))⟩
def cU.rj {S:Nat->Prop} {w w':aH9} (h:Below w.heap.size w w'):cU S w w':=
 ⟨h.os,h.tape,h.output,h.size,fun i hi _=>h.block i hi⟩
def cU.below {S:Nat->Prop} {B:Nat} {w w':aH9} (h:cU S w w') (de:B<=w.heap.size) (aw: ∀i,i < B-> ¬S i):Below B w w':=
 ⟨h.os,h.tape,h.output,h.size,fun i hi=>h.block i aD7 (aw i hi)⟩
def ml {w:aH9} {b:Nat} {o:Obj} (h:w.heap[b]? =some o):b < w.heap.size:=by
 rcases aB8 b w.heap.size with bv |rk
 .exact bv
 .rw[Array.getElem?_eq_none rk] at h;cases h
def hS (D:Nat->Prop) (w:aH9) (size:Nat) (v:aI8) (n:Nat) (xs:aH7):Prop:=
 xs.length=n*size/\ ∃A c,v= .slice A n c/\n<=c/\c<=maxLen/\
  (0 < n-> ∃b o,A=some ⟨b,o,none⟩/\D b/\b < w.heap.size/\ ∀j u,xs[j]? =some u->w.cell? ⟨b,o+j,none⟩=some u)
def uY (D:Nat->Prop) (w w':aH9):Prop:= ∀i,i < w.heap.size->D i->w'.heap[i]? =w.heap[i]?
def uY.refl (D:Nat->Prop) (w:aH9):uY D w w:=fun _ _ _=>rfl
def uY.cell {D:Nat->Prop} {w w':aH9} (h:uY D w w') {p:Addr} {v:aI8} (ag:w.cell? p=some v) (aw:D p.block):w'.cell? p=some v:=
 (World.cell?_of_block (h p.block (World.block_lt_of_cell? w p ag) aw)).trans ag
def uY.rj {D:Nat->Prop} {w w':aH9} (h:Below w.heap.size w w'):uY D w w':=fun i hi _=>h.block i hi
def hS.mono {D Cy:Nat->Prop} {w w':aH9} {size n:Nat} {v:aI8} {xs:aH7} (h:hS D w size v n xs) (Z:uY D w w') (hw:w.heap.size<=w'.heap.size) (H: ∀i,i < w.heap.size->D i->Cy i):hS Cy w' size v n xs:=by obtain⟨al,A,c,rfl,E,G,ah⟩:=h;refine⟨al,A,c,rfl,E,G,fun hn=>?_⟩;obtain⟨b,o,rfl,cw,O,J⟩:=ah hn;exact⟨b,o,rfl,H b O cw,aD7,fun j u V=>Z.cell (J j u V) cw⟩
def hS.nil (D:Nat->Prop) (w:aH9) (size:Nat):hS D w size (.slice none 0 0) 0 []:=⟨aD9,none,0,rfl,at0 _,aD8,fun h=>at1 h aD7⟩
def gu (c:UInt8):Value:=.int .u8 c.toNat
def pC (D:Nat->Prop) (w:aH9) (v:aI8) (l:aH3):Prop:=hS D w 1 v l.length (l.map gu)
def pC.form {D:Nat->Prop} {w:aH9} {v:aI8} {l:aH3} (h:pC D w v l): ∃A c,v= .slice A l.length c/\l.length<=c/\c<=maxLen:=by obtain⟨_,A,c,rfl,E,G,_⟩:=h;exact⟨A,c,rfl,E,G⟩
def qo (b o j:Nat):(⟨b,o,none⟩:Addr).add j=⟨b,o+j,none⟩:=by
 unfold Addr.add
 split
 .rename_i h;subst h;rfl
 .rfl
def Zk {P:aI0} (w:aH9) (base:Nat) (t ty e:aI3) (i:aJ3) (size:Nat) (cq:P.underlying t=some (.slice e)) (hi:P.info? e=some i)
  (v:aI8) (n:Nat) (xs:aH7) (dV:w.ownsRow base e size v n xs) (c:Nat):(Builtin.append_ #[t,t] ty #[v,.slice none 0 c]).run P w= .ok v w:=by
 rcases dV.2 with⟨rfl,rfl⟩ |⟨g,cap,di,rfl,_,_,PU,_⟩
 .simp[Builtin.append_,run_underlying cq,sizeOf,typeInfo,hi,Builtin.lenOf,Builtin.firstCells]
 .simp[Builtin.append_,run_underlying cq,sizeOf,typeInfo,hi,Builtin.lenOf,Builtin.firstCells,PU,storeCells]
def Jp {P:aI0} (w:aH9) (base:Nat) (t ty e:aI3) (i:aJ3) (aH:aI8) (size bytes:Nat) (cq:P.underlying t=some (.slice e)) (hi:P.info? e=some i) (aM:i.zero=some aH)
  (Jq:i.size=size) (x8:i.bytes=bytes) (rl:aH.cells.size=size) (cA:0 < size)
  (v:aI8) (n:Nat) (xs:aH7) (dV:w.ownsRow base e size v n xs)
  (D:Nat->Prop) (j4:aI8) (m:Nat) (gK:aH7) (aj:hS D w size j4 m gK) (E: ∀u∈gK,u.oneCell'=true)
  (Cz:n+m<=maxLen) (CA:(n+m)*bytes<=140737488355328) (CB:base<=w.heap.size):
  ∃dA w',(Builtin.append_ #[t,t] ty #[v,j4]).run P w= .ok dA w'/\w'.ownsRow base e size dA (n+m) (xs++gK)/\w.grownBy w' v.ownBlock/\
   (dA.ownBlock=v.ownBlock\/dA.ownBlock=some w.heap.size):=by
 obtain⟨al,A,c,rfl,_,_,ah⟩:=aj;rcases A with _ |ad
 .have aC:m=0:=by
   rcases aC2 m with ar |ar
   .exact ar
   .obtain⟨b,o,h,_⟩:=ah ar
    cases h
  subst aC;have hn:gK=[]:=aw5 (by simpa using al);subst hn;exact⟨v,w,Zk w base t ty e i size cq hi v n xs dV c,by simpa using dV,World.grownBy.refl w _,.inl rfl⟩
 .have CC: ∀j u,gK[j]? =some u->w.cell? (ad.add j)=some u:=by
   intro j u aZ;rcases aC2 m with ar |ar
   .subst ar;have hn:gK=[]:=aw5 (by simpa using al);subst hn;simp at aZ
   .obtain⟨b,o,h,_,_,J⟩:=ah ar;injection h with h
    subst h;rw[qo];exact J j u aZ
  obtain⟨dA,w',dK,G,aS,_,bB⟩:=run_append_own_at (P:=P) w base t ty e i aH size bytes cq hi aM Jq x8 rl cA v n xs dV ad m c gK al CC E Cz CA CB;exact⟨dA,w',dK,G,aS,bB⟩
def Zl {P:aI0} (w:aH9) {o:Oper} {a:Act} {K:Act->World->Prop} {Q:Exit->Act->World->Prop} (s x:aI2) (t:aI3)
  (ai:o.op= .call {callee:=.builtin .append,args:= #[s,x],argTypes:= #[t,t]})
  (base:Nat) (e:aI3) (aH:aI8) (size bytes:Nat) (cq:P.underlying t=some (.slice e)) (CD:(P.info? e).map (fun i=>(i.zero,i.size,i.bytes))=some (some aH,size,bytes)) (rl:aH.cells.size=size) (cA:0 < size)
  (v:aI8) (n:Nat) (xs:aH7) (aw:a.eval s=v) (dV:w.ownsRow base e size v n xs)
  (D:Nat->Prop) (j4:aI8) (m:Nat) (gK:aH7) (hx:a.eval x=j4) (aj:hS D w size j4 m gK) (E: ∀u∈gK,u.oneCell'=true)
  (Cz:n+m<=maxLen) (CA:(n+m)*bytes<=140737488355328) (CB:base<=w.heap.size)
  (h: ∀dA w',w'.ownsRow base e size dA (n+m) (xs++gK)->w.grownBy w' v.ownBlock->(dA.ownBlock=v.ownBlock\/dA.ownBlock=some w.heap.size)->K (a.put o.dst dA) w'):o.wp P a w K Q:=by
 obtain⟨i,hi,aM,Jq,x8⟩:=info_parts CD;obtain⟨dA,w',dK,G,ah,aS⟩:=Jp (P:=P) w base t o.type e i aH size bytes cq hi aM Jq x8 rl cA v n xs dV D j4 m gK aj E Cz CA CB;unfold Oper.wp execOp;simp only[ai,resolve,invoke,builtin,aw3,ax1,au6,List.map_toArray,au9,aC9,aw,hx,dK];exact h dA w' G ah aS
def Zm {P:aI0} (w:aH9) {du:Array Oper} {rest:aJ0} {o:Oper} {a:Act} {Q:Exit->Act->World->Prop} (rn:o.guard=none) (s x:aI2) (t:aI3)
  (ai:o.op= .call {callee:=.builtin .append,args:= #[s,x],argTypes:= #[t,t]})
  (base:Nat) (e:aI3) (aH:aI8) (size bytes:Nat) (cq:P.underlying t=some (.slice e)) (CD:(P.info? e).map (fun i=>(i.zero,i.size,i.bytes))=some (some aH,size,bytes)) (rl:aH.cells.size=size) (cA:0 < size)
  (v:aI8) (n:Nat) (xs:aH7) (aw:a.eval s=v) (dV:w.ownsRow base e size v n xs)
  (D:Nat->Prop) (j4:aI8) (m:Nat) (gK:aH7) (hx:a.eval x=j4) (aj:hS D w size j4 m gK) (E: ∀u∈gK,u.oneCell'=true)
  (Cz:n+m<=maxLen) (CA:(n+m)*bytes<=140737488355328) (CB:base<=w.heap.size)
  (h: ∀dA w',w'.ownsRow base e size dA (n+m) (xs++gK)->w.grownBy w' v.ownBlock->(dA.ownBlock=v.ownBlock\/dA.ownBlock=some w.heap.size)->wpList P du Q rest (a.put o.dst dA) w'):wpList P du Q (o::rest) a w:=
 wpList_plain rn fun _ cR=>Zl w s x t ai base e aH size bytes cq CD rl cA v n xs aw dV D j4 m gK hx aj E Cz CA CB fun dA w' G ah aS=>cR _ _ (h dA w' G ah aS)
def Jr (l:aH3): ∀u∈l.map gu,u.oneCell'=true:=by intro u aZ;obtain⟨c,_,rfl⟩:=av7.1 aZ;rfl
def hS.tN {w:aH9} {base:Nat} {e:aI3} {size n:Nat} {v:aI8} {xs:aH7} (h:w.ownsRow base e size v n xs):hS (fun i=>v.ownBlock=some i) w size v n xs:=by
 refine⟨h.1,?_⟩;rcases h.2 with⟨rfl,rfl⟩ |⟨g,cap,di,rfl,aV,bd,E,G,ah,aS⟩
 .exact⟨none,0,rfl,at0 _,aD8,fun h=>at1 h aD7⟩
 .refine⟨_,cap,rfl,E,G,fun _=>⟨g,0,rfl,rfl,(h.lt g rfl).2,fun j u V=>?_⟩⟩;have:=h.cells (g:=g) rfl j u V
  rwa[qo] at this
def hS.zZ {D Cy:Nat->Prop} {w:aH9} {size n:Nat} {v:aI8} {xs:aH7} (h:hS D w size v n xs) (H: ∀i,i < w.heap.size->D i->Cy i):hS Cy w size v n xs:=h.mono (uY.refl _ _) (at0 _) H
def l0 {W cJ:aH9} (O:Below W.heap.size W cJ) {p:Addr} {v:aI8} (h:W.cell? p=some v):cJ.cell? p=some v:=
 (O.cell (World.block_lt_of_cell? W p h)).trans h
def wD (w:aH9) (o:Obj):Below w.heap.size w (w.alloc o):=(Below.refl _ _).alloc (at0 _) _
def Zn (w:aH9):Below w.heap.size w w.drew:=(Below.refl _ _).drew
def aO (B:Nat) (v:aI8):Nat->Prop:=fun i=>B<=i/\v.ownBlock≠some i
def Zo {w w':aH9} {row:aI4} {S:Nat->Prop} (aV:w.grownBy w' row) (aj: ∀k,row=some k->S k):cU S w w':=
 ⟨aV.os,aV.tape,aV.output,aV.size,fun k Z hn=>aV.block k Z (fun e=>hn (aj k e.symm))⟩
def PV {D:Nat->Prop} {w:aH9} {m:Nat} {j4:aI8} {ys:aH7} (h:hS D w 1 j4 m ys) (ro:Nat):
  ∃sp uZ,j4= .slice sp m uZ/\(ys.take ro).length=Nat.min m ro/\(0 < (ys.take ro).length-> ∃ad,sp=some ad/\ ∀j v,(ys.take ro)[j]? =some v->w.cell? (ad.add j)=some v):=by
 obtain⟨al,A,c,rfl,_,_,ah⟩:=h;have n1:ys.length=m:=aE5
 have CE:(ys.take ro).length=Nat.min m ro:=by rw[at9,n1];exact Nat.min_comm _ _
 refine⟨A,c,rfl,CE,fun ag=>?_⟩
 have aC:0 < m:=by
  have:=Nat.min_le_left m ro;have e:min m ro=Nat.min m ro:=rfl;omega
 obtain⟨b,o,rfl,_,_,J⟩:=ah aC;refine⟨_,rfl,fun j v V=>?_⟩;rw[qo];refine J j v ?_;rw[ay5] at V
 split at V
 .exact V
 .cases V
def Zp {P:aI0} (w:aH9) (j4 dst e:aI3) (s:aJ7) (aw:P.underlying j4=some .string) (H:P.underlying dst=some (.slice e)) (U:P.underlying e=some (.int .u8)) (aC:s.size<=4294967296):
  ∃cap cJ,(convert j4 dst (.string s)).run P w= .ok (.slice (some ⟨w.heap.size,0,none⟩) s.size cap) cJ/\pC (fun i=>w.heap.size<=i) cJ (.slice (some ⟨w.heap.size,0,none⟩) s.size cap) s.data.toList/\Below w.heap.size w cJ:=by
 refine⟨_,_,Lib.run_convert_string_bytes w j4 dst e s aw H U,?_,?_⟩
 .have al:s.data.toList.length=s.size:=by simp
  unfold pC;rw[al];refine⟨by rw[au3,al];omega,_,_,rfl,grownCap_ge _ _ _ _,grownCap_le_maxLen _ _ _ _ aH0,fun _=>⟨_,0,rfl,at0 _,by rw[Lib.bytesWorld_size];omega,fun j u V=>?_⟩⟩
  have sD:j < s.data.toList.length:=by
   have:=(au0.1 V).1;simpa using this
  rw[ax6,Lib.bytesWorld_cell w e s j aD7];rw[av1,as7 sD] at V;simp only[az3,at5] at V;rw[<-V,at3,as7 sD];rfl
 .exact⟨rfl,rfl,rfl,by rw[Lib.bytesWorld_size];omega,fun k Z=>Lib.bytesWorld_at_old w e s k Z⟩
def Js {P:aI0} {D:Nat->Prop} {w:aH9} {A:Option Addr} {n c:Nat} {l:aH3} (h:pC D w (.slice A n c) l) (j4 dst e:aI3) (aw:P.underlying j4=some (.slice e)) (U:P.underlying e=some (.int .u8)) (H:P.underlying dst=some .string):
  (convert j4 dst (.slice A n c)).run P w= .ok (.string ⟨l.toArray⟩) w:=by
 obtain⟨al,A',cn,aB,_,_,ah⟩:=h;injection aB with af ao br
 subst af ao br;rcases A with _ |ad
 .have ar:l=[]:=by
   rcases aC2 l.length with h |h
   .exact aw5 h
   .obtain⟨b,o,ha,_⟩:=ah h;cases ha
  subst ar;exact run_convert_bytes_nil w j4 e aw U _ _ dst H
 .refine run_convert_bytes_back w j4 dst e ad _ l aw U H fun j V=>?_
  obtain⟨b,o,ha,_,_,J⟩:=ah aD7;injection ha with ha
  subst ha;rw[qo];exact J j _ (by simp[as7 V,gu])
def Jt {w:aH9} (o:Obj) {g:Nat} (h:g=w.heap.size):(w.alloc o).heap[g]? =some o:=by subst h;exact heap_alloc_new w o
end
section
inductive bz where
 |int (k:IntKind)
 |u8
 |bool
 |str
 |aL
 |da
 |fn
 |ci (u:bz)
 |bV (u v:bz)
 |arr (n:Nat) (u:bz)
def aa:bz->Type
 | .int _=>Int
 | .u8=>UInt8
 | .bool=>Bool
 | .str=>aH3
 | .aL=>Option Nat
 | .da=>Option (Nat×Nat×Nat)
 | .fn=>Nat×aH4
 | .ci u=>List (aa u)
 | .bV u v=>aa u×aa v
 | .arr _ u=>List (aa u)
def aR:bz->Nat
 | .int _=>1
 | .u8=>1
 | .bool=>1
 | .str=>1
 | .aL=>1
 | .da=>1
 | .fn=>1
 | .ci _=>1
 | .bV u v=>aR u+aR v
 | .arr n u=>n*aR u
def cO:(u:bz)->aa u
 | .int _=>(0:Int)
 | .u8=>(0:UInt8)
 | .bool=>false
 | .str=>([]:aH3)
 | .aL=>(none:aI4)
 | .da=>(none:Option (Nat×Nat×Nat))
 | .fn=>((0,[]):Nat×aH4)
 | .ci _=>[]
 | .bV u v=>(cO u,cO v)
 | .arr n u=>List.replicate n (cO u)
inductive D where
 |int (k:IntKind) (n:Int)
 |lit (b:Bool)
 |bool (b:Bool)
 |str (s:aH3)
 |aL (x:aI4)
 |da (x:Option (Nat×Nat×Nat))
 |fn (x:Nat×aH4)
 |b' (u:bz) (xs:List (aa u))
def fB:(u:bz)->aa u->Nat->D
 | .int k,n,_=>.int k n
 | .u8,b,_=>.int .u8 (UInt8.toNat b:Int)
 | .bool,b,_=>.bool b
 | .str,s,_=>.str s
 | .aL,x,_=>.aL x
 | .da,x,_=>.da x
 | .fn,x,_=>.fn x
 | .ci u,xs,_=>.b' u xs
 | .bV u v,p,j=>match Nat.blt j (aR u) with
  |true=>fB u p.1 j
  |false=>fB v p.2 (j - aR u)
 | .arr _ u,xs,j=>fB u (List.getD xs (j/aR u) (cO u)) (j % aR u)
def eR {α:Type} (xs:List α) (i:Nat):Option α:=xs[i]?
def Fk {α:Type} (x:α) (xs:List α):Prop:=x∈xs
def Zq {α:Type} (xs:List α) (i:Nat) (d:α) (h:i < xs.length):eR xs i=some (xs.getD i d):=by unfold eR;rw[at3,as7 h];rfl
def Zr {α:Type} {xs:List α} {i:Nat} {y:α} (d:α) (h:eR xs i=some y):xs.getD i d=y:=by unfold eR at h;rw[at3,h];rfl
def CF {α:Type} {xs:List α} {i:Nat} {y:α} (h:eR xs i=some y):i < xs.length:=(au0.1 h).1
def Zs {α:Type} {xs:List α} {i:Nat} {y:α} (h:eR xs i=some y):Fk y xs:=ay0 h
def oV:(u:bz)->aa u->Prop
 | .bV u v,p=>oV u p.1/\oV v p.2
 | .arr n u,xs=>List.length xs=n/\ ∀x,Fk (α:=aa u) x xs->oV u x
 |_,_=>True
def n2:Option Nat->Option Addr
 |none=>none
 |some b=>some ⟨b,0,none⟩
def rp:Option (Nat×Nat×Nat)->Value
 |none=>.slice none 0 0
 |some (b,n,cap)=>.slice (some ⟨b,0,none⟩) n cap
def rq:aH4->List Value
 | []=>[]
 |b::l=>.pointer (some ⟨b,0,none⟩)::rq l
def kK (x:Nat×aH4):Value:=.func (.func x.1) #[] (List.toArray (rq x.2))
def cy (I:Nat->Prop) (w:aH9):(u:bz)->aa u->(Nat->Option Value)->Prop
 | .int k,n,c=>c 0=some (.int k n)
 | .u8,b,c=>c 0=some (.int .u8 (UInt8.toNat b:Int))
 | .bool,b,c=>c 0=some (.bool b)
 | .str,s,c=>c 0=some (.string ⟨List.toArray s⟩)
 | .aL,x,c=>c 0=some (.pointer (n2 x))
 | .da,x,c=>c 0=some (rp x)
 | .fn,x,c=>c 0=some (kK x)
 | .ci u,xs,c=> ∃A cap,c 0=some (.slice A (List.length xs) cap)/\List.length xs<=cap/\cap<=maxLen/\
  (0 < List.length xs-> ∃b o,A=some ⟨b,o,none⟩/\I b/\ ∀i x,eR (α:=aa u) xs i=some x->cy I w u x (fun j=>w.cell? ⟨b,o+(i*aR u+j),none⟩))
 | .bV u v,p,c=>cy I w u p.1 c/\cy I w v p.2 (fun j=>c (aR u+j))
 | .arr n u,xs,c=>List.length xs=n/\ ∀i x,eR (α:=aa u) xs i=some x->cy I w u x (fun j=>c (i*aR u+j))
def gL (I:Nat->Prop) (w:aH9):D->Value->Prop
 | .int k n,v=>v= .int k n
 | .lit b,v=>v= .bool b
 | .bool b,v=>v= .bool b
 | .str s,v=>v= .string ⟨s.toArray⟩
 | .aL x,v=>v= .pointer (n2 x)
 | .da x,v=>v=rp x
 | .fn x,v=>v=kK x
 | .b' u xs,v=>cy I w (.ci u) xs (fun _=>some v)
def cm (I:Nat->Prop) (w:aH9) (I':Nat->Prop) (w':aH9):Prop:= ∀b,I b->I' b/\w'.heap[b]? =w.heap[b]?
section
variable {I I':Nat->Prop} {w w':aH9}
def cm.refl (I:Nat->Prop) (w:aH9):cm I w I w:=fun _ h=>⟨h,rfl⟩
def cm.trans {PW:Nat->Prop} {PX:aH9} (h:cm I w I' w') (k:cm I' w' PW PX):cm I w PW PX:=fun b O=>⟨(k b (h b O).1).1,(k b (h b O).1).2.trans (h b O).2⟩
def PY {b o:Nat} {v:aI8} (h:w'.heap[b]? =w.heap[b]?) (J:w.cell? ⟨b,o,none⟩=some v):w'.cell? ⟨b,o,none⟩=some v:=
 (World.cell?_of_block (a:=⟨b,o,none⟩) h).trans J
def cy.mono (U:cm I w I' w'): ∀(u:bz) (x:aa u) (c cn:Nat->Option Value),(∀j v,c j=some v->cn j=some v)->cy I w u x c->cy I' w' u x cn:=by
 intro u
 induction u with
 |int k=>exact fun x c cn J h=>J _ _ h
 |u8=>exact fun x c cn J h=>J _ _ h
 |bool=>exact fun x c cn J h=>J _ _ h
 |str=>exact fun x c cn J h=>J _ _ h
 |aL=>exact fun x c cn J h=>J _ _ h
 |da=>exact fun x c cn J h=>J _ _ h
 |fn=>exact fun x c cn J h=>J _ _ h
 |ci u bk=>
  rintro x c cn J ⟨A,cap,ar,E,G,ah⟩;refine⟨A,cap,J _ _ ar,E,G,fun al=>?_⟩;obtain⟨b,o,dO,a7,hx⟩:=ah al;exact⟨b,o,dO,(U b a7).1,fun i y aD=>bk _ _ _ (fun j v aB=>PY (U b a7).2 aB) (hx i y aD)⟩
 |bV u v oW oX=>exact fun x c cn J h=>⟨oW _ _ _ J h.1,oX _ _ _ (fun j v aB=>J _ _ aB) h.2⟩
 |arr n u bk=>exact fun x c cn J h=>⟨h.1,fun i y aD=>bk _ _ _ (fun j v aB=>J _ _ aB) (h.2 i y aD)⟩
def gL.mono (U:cm I w I' w'): ∀(x:D) (v:aI8),gL I w x v->gL I' w' x v
 | .int _ _,_,h=>h
 | .lit _,_,h=>h
 | .bool _,_,h=>h
 | .str _,_,h=>h
 | .aL _,_,h=>h
 | .da _,_,h=>h
 | .fn _,_,h=>h
 | .b' u xs,v,h=>cy.mono U (.ci u) xs (fun _=>some v) (fun _=>some v) (fun _ _ h=>h) h
def Ju {j n s:Nat} (h:j < n*s):j/s < n/\j % s < s/\j/s*s+j % s=j:=by
 have aw:0 < s:=by
  rcases aC2 s with ar |ar
  .subst ar;simp at h
  .exact ar
 exact⟨(aA9 aw).2 h,Nat.mod_lt _ aw,by rw[aB7];exact Nat.div_add_mod j s⟩
def cy.cell: ∀(u:bz) (x:aa u) (c:Nat->Option Value) (j:Nat),cy I w u x c->j < aR u-> ∃v,c j=some v/\gL I w (fB u x j) v:=by
 intro u
 induction u with
 |int k=>exact fun x c j h V=>⟨_,(by
       have:j=0:=aG5
       subst this;exact h),rfl⟩
 |u8=>exact fun x c j h V=>⟨_,(by
    have:j=0:=aG5
    subst this;exact h),rfl⟩
 |bool=>exact fun x c j h V=>⟨_,(by
      have:j=0:=aG5
      subst this;exact h),rfl⟩
 |str=>exact fun x c j h V=>⟨_,(by
     have:j=0:=aG5
     subst this;exact h),rfl⟩
 |aL=>exact fun x c j h V=>⟨_,(by
     have:j=0:=aG5
     subst this;exact h),rfl⟩
 |da=>exact fun x c j h V=>⟨_,(by
     have:j=0:=aG5
     subst this;exact h),rfl⟩
 |fn=>exact fun x c j h V=>⟨_,(by
    have:j=0:=aG5
    subst this;exact h),rfl⟩
 |ci u _=>
  intro x c j h V;have:j=0:=aG5
  subst this;obtain⟨A,cap,ar,E⟩:=h;exact⟨_,ar,A,cap,rfl,E⟩
 |bV u v oW oX=>
  intro x c j h V;simp only[aR] at V;unfold fB
  by_cases bv:j < aR u
  .rw[show Nat.blt j (aR u)=true by simpa[Nat.blt_eq] using bv];exact oW _ _ _ h.1 bv
  .rw[show Nat.blt j (aR u)=false by rw[aA7];simpa[Nat.blt_eq] using bv];have:=oX _ _ (j - aR u) h.2 aD7
   rwa[show aR u+(j - aR u)=j by omega] at this
 |arr n u bk=>
  intro x c j h V;obtain⟨af,ao,br⟩:=Ju (by simpa[aR] using V);have al:j/aR u < List.length x:=by rw[h.1];exact af
  have aV:eR (α:=aa u) x (j/aR u)=some (List.getD x (j/aR u) (cO u)):=Zq (α:=aa u) x _ _ al;have:=bk _ _ (j % aR u) (h.2 _ _ aV) ao;rw[br] at this;exact this
def cy.mk: ∀(u:bz) (x:aa u) (c:Nat->Option Value),oV u x->(∀j,j < aR u-> ∃v,c j=some v/\gL I w (fB u x j) v)->cy I w u x c:=by
 intro u
 induction u with
 |int k=>intro x c _ h;obtain⟨v,E,G⟩:=h 0 (by simp[aR]);rw[show v=_ from G] at E;exact E
 |u8=>intro x c _ h;obtain⟨v,E,G⟩:=h 0 (by simp[aR]);rw[show v=_ from G] at E;exact E
 |bool=>intro x c _ h;obtain⟨v,E,G⟩:=h 0 (by simp[aR]);rw[show v=_ from G] at E;exact E
 |str=>intro x c _ h;obtain⟨v,E,G⟩:=h 0 (by simp[aR]);rw[show v=_ from G] at E;exact E
 |da=>intro x c _ h;obtain⟨v,E,G⟩:=h 0 (by simp[aR]);rw[show v=_ from G] at E;exact E
 |fn=>intro x c _ h;obtain⟨v,E,G⟩:=h 0 (by simp[aR]);rw[show v=_ from G] at E;exact E
 |aL=>intro x c _ h;obtain⟨v,E,G⟩:=h 0 (by simp[aR]);rw[show v=_ from G] at E;exact E
 |ci u _=>
  intro x c _ h;obtain⟨v,E,A,cap,G,ah⟩:=h 0 (by simp[aR]);exact⟨A,cap,E.trans G,ah⟩
 |bV u v oW oX=>
  intro x c hw h;refine⟨oW _ _ hw.1 fun j V=>?_,oX _ _ hw.2 fun j V=>?_⟩
  .obtain⟨v,E,G⟩:=h j (by simp only[aR];omega);unfold fB at G;rw[show Nat.blt j (aR u)=true by simpa[Nat.blt_eq] using V] at G;exact⟨v,E,G⟩
  .obtain⟨dA,E,G⟩:=h (aR u+j) (by simp only[aR];omega);unfold fB at G;rw[show Nat.blt (aR u+j) (aR u)=false by rw[aA7];simp[Nat.blt_eq]] at G;rw[show aR u+j - aR u=j by omega] at G;exact⟨dA,E,G⟩
 |arr n u bk=>
  intro x c hw h;refine⟨hw.1,fun i y aD=>bk _ _ (hw.2 y (Zs (α:=aa u) aD)) fun j V=>?_⟩;have hi:i < List.length x:=CF (α:=aa u) aD;have dP:i < n:=by rw[<-hw.1];exact hi
  have bv:i*aR u+j < n*aR u:=by
   have:=az6 (aR u) dP;rw[aA6] at this;omega
  obtain⟨v,E,G⟩:=h (i*aR u+j) bv;unfold fB at G
  have af:(i*aR u+j)/aR u=i:=by
   rw[aB7,Nat.mul_add_div aD7,Nat.div_eq_of_lt V,aA0]
  have ao:(i*aR u+j) % aR u=j:=by
   rw[aB7,Nat.mul_add_mod,Nat.mod_eq_of_lt V]
  rw[af,ao] at G;rw[show List.getD x i (cO u)=y from Zr (α:=aa u) _ aD] at G;exact⟨v,E,G⟩
end
structure bp where
 bf:Nat
 A:Option Addr
 n:Nat
 cap:Nat
def bp.eS (p:bp):Value:=.slice p.A p.n p.cap
inductive kL where
 |p (c off:Nat)
 |d (x:D)
inductive bA where
 |d (x:D)
 |ptr (c off:Nat)
 |own (c:Nat)
 |el (u:bz) (x:aa u) (off:Nat)
 |ga (c s i off:Nat)
 |os (c s off n:Nat)
 |mp (c:Nat)
 |c2 (f:aI9) (l:List kL)
 |dC
 |bK (v:aI8)
 |any
inductive dQ where
 |one (s:bA)
 |agg (l:List bA)
 |ko (u:bz) (x:aa u)
inductive aN where
 |c (x:dQ)
 |b4 (l:List dQ)
 |undef
structure bc where
 bo:(Nat->Prop)->(Nat->Prop)->World->bp->Prop
 cj: ∀(I F:Nat->Prop) (w:aH9) (I':Nat->Prop) (w':aH9) (p:bp),bo I F w p->cm I w I' w'->(∀b,F b->w'.heap[b]? =w.heap[b]?)->w.heap.size<=w'.heap.size->bo I' F w' p
inductive a8 where
 |cells (l:List bA)
 |row (e:aI3) (u:bz) (xs:List (aa u))
 |map (aF aJ:bz) (es:List (aa aF×aa aJ))
 |val (u:bz) (x:aa u)
 |az (o:bc)
 |b5 (d:Nat) (o:bp->bc)
def x9 (ρ:Nat->bp) (I:Nat->Prop) (w:aH9):kL->Value->Prop
 | .p c off,v=>v= .pointer (some ⟨(ρ c).bf,off,none⟩)
 | .d x,v=>gL I w x v
def h5 (ρ:Nat->bp) (I:Nat->Prop) (w:aH9):List kL->List Value->Prop
 | [],aE=>aE=[]
 |s::l,aE=> ∃v r,aE=v::r/\x9 ρ I w s v/\h5 ρ I w l r
def dW (ρ:Nat->bp) (I:Nat->Prop) (w:aH9):bA->Value->Prop
 | .d x,v=>gL I w x v
 | .ptr c off,v=>v= .pointer (some ⟨(ρ c).bf,off,none⟩)
 | .own c,v=>v=(ρ c).eS
 | .el u x off,v=> ∃b o,v= .pointer (some ⟨b,o+off,none⟩)/\I b/\cy I w u x (fun j=>w.cell? ⟨b,o+j,none⟩)
 | .ga c s i off,v=>v= .pointer (some ⟨(ρ c).bf,i*s+off,none⟩)
 | .os c s off n,v=>v= .slice (if(ρ c).cap=off then(ρ c).A else(ρ c).A.map (·.add (off*s))) n ((ρ c).cap - off)
 | .mp c,v=>v= .map (some (ρ c).bf)
 | .c2 f l,v=> ∃aE,v= .func (.func f) #[] (List.toArray aE)/\h5 ρ I w l aE
 | .dC,v=>v= .slice none 0 0
 | .bK u,v=>v=u
 | .any,_=>True
def cf (ρ:Nat->bp) (I:Nat->Prop) (w:aH9):List bA->List Value->Prop
 | [],aE=>aE=[]
 |s::l,aE=> ∃v r,aE=v::r/\dW ρ I w s v/\cf ρ I w l r
def gC (ρ:Nat->bp) (I:Nat->Prop) (w:aH9):dQ->Value->Prop
 | .one s,v=>dW ρ I w s v
 | .agg l,v=> ∃aE,v= .agg (List.toArray aE)/\cf ρ I w l aE
 | .ko u x,v=> ∃aE,v= .agg (List.toArray aE)/\aE.length=aR u/\cy I w u x (fun j=>aE[j]?)
def iL (ρ:Nat->bp) (I:Nat->Prop) (w:aH9):List dQ->List Value->Prop
 | [],aE=>aE=[]
 |s::l,aE=> ∃v r,aE=v::r/\gC ρ I w s v/\iL ρ I w l r
def cx (ρ:Nat->bp) (I:Nat->Prop) (w:aH9):aN->Value->Prop
 | .c x,v=>gC ρ I w x v
 | .b4 l,v=> ∃aE,v= .tuple (List.toArray aE)/\iL ρ I w l aE
 | .undef,v=>v=Go.undef
def gM:(u:bz)->aa u->Value
 | .int k,n=>.int k n
 | .str,s=>.string ⟨List.toArray s⟩
 |_,_=>.nilFunc
def nt:bz->Bool
 | .bV _ _=>false
 | .arr _ _=>false
 |_=>true
def jn (I:Nat->Prop) (w:aH9) (u:bz) (x:aa u) (v:aI8):Prop:=v.cells.size=aR u/\((nt u=true->v.cells= #[v])/\(nt u=false-> ∃cs,v= .agg cs))/\cy I w u x (fun j=>v.cells.toList[j]?)
def io (I:Nat->Prop) (w:aH9) (aF aJ:bz):List (aa aF×aa aJ)->List MapEntry->Prop
 | [],es=>es=[]
 |p::l,es=> ∃e r,es=e::r/\e.key=gM aF p.1/\jn I w aJ p.2 e.val/\io I w aF aJ l r
def mm (es:aJ1) (bY:Nat):Prop:=(es.map (·.born)).Pairwise (· < ·)/\ ∀e,e∈es->e.born < bY
def hC (I:Nat->Prop) (w:aH9) (u:bz) (xs:List (aa u)) (cs:aH7):Prop:= ∀i x,xs[i]? =some x->cy I w u x (fun j=>cs[i*aR u+j]?)
def Holds (ρ:Nat->bp) (I F:Nat->Prop) (w:aH9) (p:bp):a8->Prop
 | .cells l=>(∀b,F b↔b=p.bf)/\ ∃aE T,w.heap[p.bf]? =some (.cells (List.toArray aE) T (0,0))/\cf ρ I w l aE
 | .row e u xs=>(∀b,F b↔p.eS.ownBlock=some b)/\(∀b,p.eS.ownBlock=some b->b=p.bf)/\ ∃cs,w.ownsRow 0 e (aR u) p.eS xs.length cs/\hC I w u xs cs
 | .map aF aJ es=>(∀b,F b↔b=p.bf)/\ ∃bT bY,w.heap[p.bf]? =some (.map (List.toArray bT) bY)/\io I w aF aJ es bT/\mm bT bY
 | .val u x=>(∀b,F b↔b=p.bf)/\ ∃aE T,w.heap[p.bf]? =some (.cells (List.toArray aE) T (0,0))/\aE.length=aR u/\cy I w u x (fun j=>aE[j]?)
 | .az o=>o.bo I F w p
 | .b5 d o=>(o (ρ d)).bo I F w p
def mn (c:Nat):List kL->Bool
 | []=>false
 | .p b _::l=>Nat.beq b c||mn c l
 | .d _::l=>mn c l
def bA.has (c:Nat):bA->Bool
 | .ptr b _=>Nat.beq b c
 | .own b=>Nat.beq b c
 | .ga b _ _ _=>Nat.beq b c
 | .os b _ _ _=>Nat.beq b c
 | .mp b=>Nat.beq b c
 | .c2 _ l=>mn c l
 |_=>false
def mR (c:Nat):List bA->Bool
 | []=>false
 |s::l=>s.has c||mR c l
def dQ.has (c:Nat):dQ->Bool
 | .one s=>s.has c
 | .agg l=>mR c l
 | .ko _ _=>false
def tO (c:Nat):List dQ->Bool
 | []=>false
 |s::l=>s.has c||tO c l
def aN.has (c:Nat):aN->Bool
 | .c x=>x.has c
 | .b4 l=>tO c l
 | .undef=>false
def a8.has (c:Nat):a8->Bool
 | .cells l=>mR c l
 | .b5 d _=>Nat.beq d c
 |_=>false
section
variable {ρ ρ':Nat->bp} {I I':Nat->Prop} {w w':aH9}
def h5.mono (U:cm I w I' w'): ∀(l:List kL) (aE:aH7),(∀c,mn c l=true->ρ' c=ρ c)->h5 ρ I w l aE->h5 ρ' I' w' l aE
 | [],_,_,h=>h
 | .p b o::l,_,dl,⟨v,r,e,E,G⟩=>⟨v,r,e,(by have e:=dl b (by simp[mn]);simp only[x9] at*;rw[e];exact E),h5.mono U l r (fun c J=>dl c (by simp[mn,J])) G⟩
 | .d x::l,_,dl,⟨v,r,e,E,G⟩=>⟨v,r,e,gL.mono U x v E,h5.mono U l r (fun c J=>dl c (by simpa[mn] using J)) G⟩
def dW.mono (U:cm I w I' w') (s:bA) (v:aI8) (dl: ∀c,s.has c=true->ρ' c=ρ c) (h:dW ρ I w s v):dW ρ' I' w' s v:=by
 cases s with
 |d x=>exact gL.mono U x v h
 |ptr c off=>
  have e:=dl c aG1;simp only[dW] at*;rw[e];exact h
 |own c=>
  have e:=dl c aG1;simp only[dW] at*;rw[e];exact h
 |el u x off=>
  obtain⟨b,o,E,G,ah⟩:=h;exact⟨b,o,E,(U b G).1,cy.mono U u x _ _ (fun j v aB=>PY (U b G).2 aB) ah⟩
 |ga c s i off=>
  have e:=dl c aG1;simp only[dW] at*;rw[e];exact h
 |os c s off n=>
  have e:=dl c aG1;simp only[dW] at*;rw[e];exact h
 |mp c=>
  have e:=dl c aG1;simp only[dW] at*;rw[e];exact h
 |c2 f l=>obtain⟨aE,e,h⟩:=h;exact⟨aE,e,h5.mono U l aE dl h⟩
 |dC=>exact h
 |bK u=>exact h
 |any=>trivial
def cf.mono (U:cm I w I' w'): ∀(l:List bA) (aE:aH7),(∀c,mR c l=true->ρ' c=ρ c)->cf ρ I w l aE->cf ρ' I' w' l aE
 | [],_,_,h=>h
 |s::l,_,dl,⟨v,r,e,E,G⟩=>⟨v,r,e,dW.mono U s v (fun c J=>dl c (by simp[mR,J])) E,cf.mono U l r (fun c J=>dl c (by simp[mR,J])) G⟩
def gC.mono (U:cm I w I' w') (s:dQ) (v:aI8) (dl: ∀c,s.has c=true->ρ' c=ρ c) (h:gC ρ I w s v):gC ρ' I' w' s v:=by
 cases s with
 |one s=>exact dW.mono U s v dl h
 |agg l=>obtain⟨aE,e,h⟩:=h;exact⟨aE,e,cf.mono U l aE dl h⟩
 |ko u x=>obtain⟨aE,e,E,G⟩:=h;exact⟨aE,e,E,cy.mono U u x _ _ (fun _ _ h=>h) G⟩
def iL.mono (U:cm I w I' w'): ∀(l:List dQ) (aE:aH7),(∀c,tO c l=true->ρ' c=ρ c)->iL ρ I w l aE->iL ρ' I' w' l aE
 | [],_,_,h=>h
 |s::l,_,dl,⟨v,r,e,E,G⟩=>⟨v,r,e,gC.mono U s v (fun c J=>dl c (by simp[tO,J])) E,iL.mono U l r (fun c J=>dl c (by simp[tO,J])) G⟩
def cx.mono (U:cm I w I' w') (s:aN) (v:aI8) (dl: ∀c,s.has c=true->ρ' c=ρ c) (h:cx ρ I w s v):cx ρ' I' w' s v:=by
 cases s with
 |c s=>exact gC.mono U s v dl h
 |b4 l=>obtain⟨aE,e,h⟩:=h;exact⟨aE,e,iL.mono U l aE dl h⟩
 |undef=>exact h
def hC.mono (U:cm I w I' w') {u:bz} {xs:List (aa u)} {cs:aH7} (h:hC I w u xs cs):hC I' w' u xs cs:=fun i x hx=>cy.mono U u x _ _ (fun _ _ h=>h) (h i x hx)
def jn.mono (U:cm I w I' w') {u:bz} {x:aa u} {v:aI8} (h:jn I w u x v):jn I' w' u x v:=⟨h.1,h.2.1,cy.mono U u x _ _ (fun _ _ h=>h) h.2.2⟩
def io.mono (U:cm I w I' w') {aF aJ:bz}: ∀{l:List (aa aF×aa aJ)} {es:aJ1},io I w aF aJ l es->io I' w' aF aJ l es
 | [],_,h=>h
 |_::_,_,⟨e,r,ar,E,G,ah⟩=>⟨e,r,ar,E,G.mono U,ah.mono U⟩
def Zt {e s n:Nat} {v:aI8} {cs:aH7} (h:w.ownsRow 0 e s v n cs) (O: ∀b,v.ownBlock=some b->w'.heap[b]? =w.heap[b]?):w'.ownsRow 0 e s v n cs:=by
 refine⟨h.1,?_⟩;rcases h.2 with h |⟨g,cap,di,aB,ar,aV,r⟩
 .exact .inl h
 .exact .inr ⟨g,cap,di,aB,ar,(O g (by rw[aB];rfl)).trans aV,r⟩
def Holds.cj (U:cm I w I' w') {F:Nat->Prop} (bg: ∀b,F b->w'.heap[b]? =w.heap[b]?) (aM:w.heap.size<=w'.heap.size) {p:bp}: ∀(ch:a8),(∀c,ch.has c=true->ρ' c=ρ c)->Holds ρ I F w p ch->Holds ρ' I' F w' p ch
 | .cells l,dl,⟨E,aE,T,G,ah⟩=>⟨E,aE,T,(bg _ ((E _).2 rfl)).trans G,cf.mono U l aE dl ah⟩
 | .row e u xs,_,⟨E,G,cs,ah,aS⟩=>⟨E,G,cs,Zt ah fun b O=>bg b ((E b).2 O),aS.mono U⟩
 | .map aF aJ es,_,⟨E,bT,bY,G,ah,aS⟩=>⟨E,bT,bY,(bg _ ((E _).2 rfl)).trans G,ah.mono U,aS⟩
 | .val u x,_,⟨E,aE,T,G,ah,aS⟩=>⟨E,aE,T,(bg _ ((E _).2 rfl)).trans G,ah,cy.mono U u x _ _ (fun _ _ h=>h) aS⟩
 | .az o,_,h=>o.cj _ _ _ _ _ _ h U bg aM
 | .b5 d o,dl,h=>by
  have e:=dl d (by simp[a8.has]);simp only[Holds] at*;rw[e];exact(o (ρ d)).cj _ _ _ _ _ _ h U bg aM
end
end
section
abbrev aW:=List (Nat×aN)
abbrev ay:=List (Nat×a8)
def dX:aW->Nat->aN
 | [],_=>.c (.one .any)
 |(t,v)::K,s=>match Nat.beq t s with
  |true=>v
  |false=>dX K s
def ae:ay->Nat->Option a8
 | [],_=>none
 |(t,v)::B,s=>match Nat.beq t s with
  |true=>some v
  |false=>ae B s
def gT:ay->Nat->ay
 | [],_=>[]
 |(t,v)::B,s=>match Nat.beq t s with
  |true=>gT B s
  |false=>(t,v)::gT B s
def hD (B:ay) (c d:Nat):ae (gT B c) d=if c=d then none else ae B d:=by
 induction B with
 |nil=>simp[gT,ae]
 |cons x B bk=>
  obtain⟨t,v⟩:=x;unfold gT
  by_cases h:Nat.beq t c=true
  .have e:=at8 h;subst e;rw[h];simp only[bk]
   split
   .rfl
   .rename_i a6;simp only[ae];rw[show Nat.beq t d=false by rw[aA7];intro h;exact a6 (at8 h)]
  .rw[aD6] at h;rw[h];simp only[ae]
   by_cases G:Nat.beq t d=true
   .have e:=at8 G;subst e;rw[mu (fun e=>by subst e;simp at h)];rw[G]
   .rw[aD6] at G;rw[G];simpa using bk
def co (B:ay) (c:Nat) (ch:a8) (d:Nat):ae ((c,ch)::B) d=if c=d then some ch else ae B d:=by
 simp only[ae]
 by_cases h:c=d
 .subst h;simp
 .rw[mu h,show Nat.beq c d=false by rw[aA7];intro e;exact h (at8 e)]
def kM (K:aW) (c:Nat) (v:aN) (d:Nat):dX ((c,v)::K) d=if c=d then v else dX K d:=by
 rw[dX.eq_def]
 by_cases h:c=d
 .subst h;simp
 .simp only[mu h,show Nat.beq c d=false by rw[aA7];intro e;exact h (at8 e)]
def PZ (a:Act) (s:Nat) (v:aI8):Prop:=a.tmps.getD s undef=v
def P0 {a:Act} {d:Nat} {v:aI8} (h:d < a.tmps.size):PZ (a.put (some d) v) d v:=by simp[PZ,Act.put,h]
def Zu {a:Act} {d s:Nat} {v:aI8} (h:d≠s):a.tmps.getD s undef=(a.put (some d) v).tmps.getD s undef:=by simp[Act.put,az7 h]
def kN {a:Act} {d:aI4} {v:aI8}:(a.put d v).tmps.size=a.tmps.size:=by cases d <;>simp[Act.put]
def kO {a:Act} {d:aI4} {v:aI8}:(a.put d v).defers=a.defers:=by cases d <;>simp[Act.put]
structure fc where
 gv:World
 z1:Nat->Prop
 qp:Nat->Prop
 mS:Nat->bp
 ds:aH4
def x' (D:Nat):Deferred:={target:=.collected D,args:= #[]}
def bZ (C:fc) (B:ay) (F:Nat->Nat->Prop) (w:aH9):Nat->Prop:=fun b=>
 b < w.heap.size/\(C.z1 b\/C.qp b\/C.gv.heap.size<=b/\b∉C.ds)/\ ∀c ch,ae B c=some ch-> ¬F c b
structure Mem (ids:aH4) (C:fc) (B:ay) (ρ:Nat->bp) (F:Nat->Nat->Prop) (w:aH9):Prop where
 fr:cU C.qp C.gv w
 holds: ∀c ch,ae B c=some ch->Holds ρ (bZ C B F w) (F c) w (ρ c) ch
 own: ∀c ch,ae B c=some ch-> ∀b,F c b->b < w.heap.size/\(C.qp b\/C.gv.heap.size<=b/\b∉C.ds)
 fd: ∀c cn ch ch' b,ae B c=some ch->ae B cn=some ch'->c≠cn->F c b-> ¬F cn b
 l0: ∀c,c∈ids->ρ c=C.mS c
 k':C.ds.Nodup/\(∀b,C.z1 b\/C.qp b->b < C.gv.heap.size)/\ ∀D,D∈C.ds->D < w.heap.size/\w.heap[D]? =some (.deferred (some []))/\C.gv.heap.size<=D
def eo (K:aW) (ρ:Nat->bp) (I:Nat->Prop) (a:Act) (w:aH9):Prop:= ∀s,cx ρ I w (dX K s) (a.tmps.getD s undef)
def e2 (N:Nat) (ids:aH4) (C:fc) (K:aW) (B:ay) (a:Act) (w:aH9):Prop:=
 a.tmps.size=N/\a.defers=C.ds.map x'/\ ∃ρ F,Mem ids C B ρ F w/\eo K ρ (bZ C B F w) a w
def Mem.fresh {ids:aH4} {C:fc} {B:ay} {ρ:Nat->bp} {F:Nat->Nat->Prop} {w:aH9} (h:Mem ids C B ρ F w) {b:Nat} (O:w.heap.size<=b):C.gv.heap.size<=b/\b∉C.ds:=
 ⟨ay1 h.fr.size O,fun H=>by have:=(h.k'.2.2 b H).1;omega⟩
def Mem.step {ids:aH4} {C:fc} {B B':ay} {ρ ρ':Nat->bp} {F F':Nat->Nat->Prop} {w w':aH9} (h:Mem ids C B ρ F w) (M Fl:Nat->Prop)
  (cF:cU (fun b=> ∃c ch,ae B c=some ch/\M c/\F c b) w w')
  (rr: ∀c ch,ae B' c=some ch-> ¬M c->ae B c=some ch)
  (dl: ∀c,¬Fl c->ρ' c=ρ c) (bg: ∀c,¬M c->F' c=F c) (Jv: ∀c,c∈ids-> ¬Fl c)
  (nu: ∀c,Fl c->M c)
  (named: ∀c ch,ae B c=some ch-> ¬M c-> ∀d,ch.has d=true-> ¬Fl d)
  (new: ∀c ch,ae B' c=some ch->M c->cm (bZ C B F w) w (bZ C B' F' w') w'->Holds ρ' (bZ C B' F' w') (F' c) w' (ρ' c) ch)
  (Fm: ∀c ch,ae B' c=some ch->M c-> ∀b,F' c b->b < w'.heap.size/\((∃gU cB,ae B gU=some cB/\M gU/\F gU b)\/w.heap.size<=b))
  (Zv: ∀c cn ch ch' b,ae B' c=some ch->ae B' cn=some ch'->M c->M cn->c≠cn->F' c b-> ¬F' cn b):
  Mem ids C B' ρ' F' w'/\cm (bZ C B F w) w (bZ C B' F' w') w':=by
 have aM:=h.fr.size
 have ya:cm (bZ C B F w) w (bZ C B' F' w') w':=by
  rintro b ⟨E,G,ah⟩;refine⟨⟨au8 E cF.size,G,fun c ch J=>?_⟩,cF.block b E ?_⟩
  .by_cases ak:M c
   .intro O;obtain⟨_,c8⟩:=Fm c ch J ak b O;rcases c8 with⟨gU,cB,af,_,ao⟩ |c8
    .exact ah gU cB af ao
    .omega
   .rw[bg c ak];exact ah c ch (rr c ch J ak)
  .rintro⟨c,ch,af,_,ao⟩;exact ah c ch af ao
 have Zw: ∀c ch,ae B c=some ch-> ¬M c-> ∀b,F c b->w'.heap[b]? =w.heap[b]? :=fun c ch J ak b O=>
  cF.block b (h.own c ch J b O).1 (by
   rintro⟨gU,cB,af,ao,br⟩;exact h.fd c gU ch cB b J af (fun e=>ak (e▸ao)) O br)
 refine⟨⟨?_,?_,?_,?_,?_,?_⟩,ya⟩
 .refine h.fr.trans cF ?_;rintro b O ⟨c,ch,af,_,ao⟩;rcases(h.own c ch af b ao).2 with h' |h'
  .exact h'
  .have:=h'.1;omega
 .intro c ch J
  by_cases ak:M c
  .exact new c ch J ak ya
  .have ai:=rr c ch J ak;rw[bg c ak,dl c (fun hn=>ak (nu c hn))];exact Holds.cj ya (Zw c ch ai ak) cF.size ch (fun d H=>dl d (named c ch ai ak d H)) (h.holds c ch ai)
 .intro c ch J b O
  by_cases ak:M c
  .obtain⟨E,G⟩:=Fm c ch J ak b O;refine⟨E,?_⟩;rcases G with⟨gU,cB,af,_,ao⟩ |G
   .exact(h.own gU cB af b ao).2
   .exact .inr (h.fresh G)
  .rw[bg c ak] at O;obtain⟨E,G⟩:=h.own c ch (rr c ch J ak) b O;exact⟨au8 E cF.size,G⟩
 .intro c cn ch ch' b J c3 a6 O c8
  by_cases ak:M c
  .by_cases bH:M cn
   .exact Zv c cn ch ch' b J c3 ak bH a6 O c8
   .rw[bg cn bH] at c8;have tP:=rr cn ch' c3 bH;rcases(Fm c ch J ak b O).2 with⟨gU,cB,af,br,ao⟩ |G
    .exact h.fd gU cn cB ch' b af tP (fun e=>bH (e▸br)) ao c8
    .have:=(h.own cn ch' tP b c8).1;omega
  .rw[bg c ak] at O;have ai:=rr c ch J ak
   by_cases bH:M cn
   .rcases(Fm cn ch' c3 bH b c8).2 with⟨gU,cB,af,br,ao⟩ |G
    .exact h.fd gU c cB ch b af ai (fun e=>ak (e▸br)) ao O
    .have:=(h.own c ch ai b O).1;omega
   .rw[bg cn bH] at c8;exact h.fd c cn ch ch' b ai (rr cn ch' c3 bH) a6 O c8
 .intro c J;rw[dl c (Jv c J)];exact h.l0 c J
 .refine⟨h.k'.1,h.k'.2.1,fun D cw=>?_⟩;obtain⟨g1,g2,cL⟩:=h.k'.2.2 D cw;refine⟨au8 g1 cF.size,(cF.block D g1 ?_).trans g2,cL⟩;rintro⟨c,ch,af,_,ao⟩;rcases(h.own c ch af D ao).2 with h' |h'
  .have:=h.k'.2.1 D (.inr h');omega
  .exact h'.2 cw
def Mem.below {ids:aH4} {C:fc} {B:ay} {ρ:Nat->bp} {F:Nat->Nat->Prop} {w w':aH9} (h:Mem ids C B ρ F w) (O:Below w.heap.size w w'):
  Mem ids C B ρ F w'/\cm (bZ C B F w) w (bZ C B F w') w':=
 h.step (fun _=>False) (fun _=>False) (cU.rj O) (fun _ _ h _=>h) (fun _ _=>rfl) (fun _ _=>rfl) (fun _ _ h=>h) (fun _ h=>h) (fun _ _ _ _ _ _ h=>h) (fun _ _ _ h=>h.elim) (fun _ _ _ h=>h.elim) (fun _ _ _ _ _ _ _ h=>h.elim)
def eo.mono {K:aW} {ρ ρ':Nat->bp} {I I':Nat->Prop} {a:Act} {w w':aH9} (h:eo K ρ I a w) (U:cm I w I' w') (dl: ∀s c,(dX K s).has c=true->ρ' c=ρ c):eo K ρ' I' a w':=
 fun s=>cx.mono U _ _ (dl s) (h s)
def eo.put {K:aW} {ρ:Nat->bp} {I:Nat->Prop} {a:Act} {w:aH9} (h:eo K ρ I a w) {d:Nat} {v:aN} {x:aI8} (H:d < a.tmps.size) (aB:cx ρ I w v x):eo ((d,v)::K) ρ I (a.put (some d) x) w:=fun s=>by
 rw[kM]
 by_cases e:d=s
 .subst e;rw[vj rfl,show(a.put (some d) x).tmps.getD d undef=x from P0 H];exact aB
 .rw[mu e,<-Zu e];exact h s
def mT (d:aI4) (v:aN) (K:aW):aW:=match d with
 |some d=>(d,v)::K
 |none=>K
def eo.kP {K:aW} {ρ:Nat->bp} {I:Nat->Prop} {a:Act} {w:aH9} (h:eo K ρ I a w) {d:aI4} {v:aN} {x:aI8} (H: ∀e,d=some e->e < a.tmps.size) (aB:cx ρ I w v x):eo (mT d v K) ρ I (a.put d x) w:=by
 cases d with
 |none=>exact h
 |some d=>exact h.put (H d rfl) aB
def wE:Value->bA
 | .int k n=>.d (.int k n)
 | .bool b=>.d (.lit b)
 | .string s=>.d (.str s.data.toList)
 | .slice none 0 0=>.dC
 |v=>.bK v
def P1 (ρ:Nat->bp) (I:Nat->Prop) (w:aH9) (v:aI8):dW ρ I w (wE v) v:=by
 unfold wE
 split <;>simp[dW,gL]
def Fo:Value->aN
 | .agg cs=>.c (.agg (cs.toList.map wE))
 |v=>.c (.one (wE v))
def P2 (ρ:Nat->bp) (I:Nat->Prop) (w:aH9): ∀aE:List Value,cf ρ I w (aE.map wE) aE
 | []=>rfl
 |v::aE=>⟨v,aE,rfl,P1 ρ I w v,P2 ρ I w aE⟩
def Zx (ρ:Nat->bp) (I:Nat->Prop) (w:aH9) (v:aI8):cx ρ I w (Fo v) v:=by
 unfold Fo
 split
 .rename_i cs;exact⟨cs.toList,aD9,P2 ρ I w _⟩
 .exact P1 ρ I w v
def a1 (K:aW):Operand->aN
 | .tmp t=>dX K t
 | .const v=>Fo v
 | .func f=>.c (.one (.c2 f []))
 | .global g=>.c (.one (.bK (.pointer (some ⟨g,0,none⟩))))
def eo.get {K:aW} {ρ:Nat->bp} {I:Nat->Prop} {a:Act} {w:aH9} (h:eo K ρ I a w) (x:aI2):cx ρ I w (a1 K x) (a.eval x):=by
 cases x with
 |tmp t=>exact h t
 |const v=>exact Zx ρ I w v
 |func f=>exact⟨[],rfl,rfl⟩
 |global g=>rfl
end
section
def z2 (a b:Int):Bool:=decide (a=b)
def z6 (a b:aH3):Bool:=decide (a=b)
def fT:(u:bz)->aa u->aa u->Bool
 | .int _,a,b=>z2 a b
 | .str,a,b=>z6 a b
 |_,_,_=>false
def bX {aF aJ:bz}:List (aa aF×aa aJ)->aa aF->Option (aa aJ)
 | [],_=>none
 |p::l,k=>match fT aF k p.1 with
  |true=>some p.2
  |false=>bX l k
def dp {aF aJ:bz}:List (aa aF×aa aJ)->aa aF->aa aJ->List (aa aF×aa aJ)
 | [],k,x=>[(k,x)]
 |p::l,k,x=>match fT aF k p.1 with
  |true=>(k,x)::l
  |false=>p::dp l k x
def gN {aF aJ:bz}:List (aa aF×aa aJ)->aa aF->List (aa aF×aa aJ)
 | [],_=>[]
 |p::l,k=>match fT aF k p.1 with
  |true=>l
  |false=>p::gN l k
def nv:bz->TypeDesc->Bool
 | .int k,.int ec=>k == ec
 | .str,.string=>true
 |_,_=>false
section
variable {P:aI0} {I:Nat->Prop} {w:aH9} {aF aJ:bz}
def sE {d:aJ4} (H:nv aF d=true) (a:aa aF):MapKept.IsKey d (gM aF a):=by
 cases aF <;>cases d <;>simp[nv] at H
 .subst H;simp[gM,MapKept.IsKey]
 .simp[gM,MapKept.IsKey]
def Jw {d:aJ4} (H:nv aF d=true) (a b:aa aF):gM aF a=gM aF b↔fT aF a b=true:=by
 cases aF <;>cases d <;>simp[nv] at H
 .have: ∀(k:IntKind) (a b:Int),Value.int k a=Value.int k b↔z2 a b=true:=fun k a b=>by simp[z2]
  exact this _ a b
 .have: ∀(a b:aH3),Value.string ⟨List.toArray a⟩=Value.string ⟨List.toArray b⟩↔z6 a b=true:=fun a b=>by simp[z6]
  exact this a b
def CG: ∀{l:List (aa aF×aa aJ)} {es:aJ1},io I w aF aJ l es->es.length=l.length
 | [],_,h=>by rw[show _=[] from h];rfl
 |p::l,_,⟨e,r,h,_,_,ah⟩=>by rw[h,aw7,aw7,CG ah]
def z7 {d:aJ4} (H:nv aF d=true) (k:aa aF): ∀(l:List (aa aF×aa aJ)) (es:aJ1) (i:Nat),io I w aF aJ l es->
  (Instr.findNow d (gM aF k) es i=some none/\bX l k=none/\(∀x,dp l k x=l++[(k,x)])/\gN l k=l)\/
  ∃(j:Nat) (x:aa aJ) (e:MapEntry),Instr.findNow d (gM aF k) es i=some (some (i+j,e.val))/\bX l k=some x/\es[j]? =some e/\e.key=gM aF k/\jn I w aJ x e.val/\(∀y,dp l k y=l.set j (k,y))/\gN l k=l.eraseIdx j
 | [],_,i,h=>by
  rw[show _=[] from h];exact .inl ⟨rfl,rfl,fun _=>rfl,rfl⟩
 |p::l,_,i,⟨e,r,h,E,G,ah⟩=>by
  subst h;obtain⟨b,O,rs⟩:=MapKept.sameNow_of_keys (sE H k) (sE H p.1);rw[<-E] at O
  cases Z:fT aF k p.1 with
  |true=>
   have j5:b=true:=rs.2 ((Jw H k p.1).2 Z);subst j5;refine .inr ⟨0,p.2,e,by simp[Instr.findNow,O],by simp[bX,Z],rfl,by rw[E];exact((Jw H k p.1).2 Z).symm,G,fun y=>by simp[dp,Z],by simp[gN,Z]⟩
  |false=>
   have Zy:b=false:=by
    cases b with
    |false=>rfl
    |true=>have:=(Jw H k p.1).1 (rs.1 rfl);rw[Z] at this;cases this
   subst Zy;rcases z7 H k l r (i+1) ah with⟨bM,bU,a3,a4⟩ |⟨j,x,cc,bM,bU,a3,a4,a5,fj,ru⟩
   .exact .inl ⟨by simp[Instr.findNow,O,bM],by simp[bX,Z,bU],fun y=>by simp[dp,Z,a3],by simp[gN,Z,a4]⟩
   .exact .inr ⟨j+1,x,cc,by simp[Instr.findNow,O,bM];omega,by simp[bX,Z,bU],by simpa using a3,a4,a5,fun y=>by simp[dp,Z,fj],by simp[gN,Z,ru]⟩
def P3 {t kt et:aI3} {d:aJ4} (cq:P.underlying t=some (.map kt et)) (Z:P.underlying kt=some d) (H:nv aF d=true) {b:Nat} {bT:aJ1} {bY:Nat} (O:w.heap[b]? =some (.map (List.toArray bT) bY))
  {l:List (aa aF×aa aJ)} (aC:io I w aF aJ l bT) {aH:aI8} (aM:(zeroValue et).run P w= .ok aH w) (wF:jn I w aJ (cO aJ) aH) (k:aa aF) (c:Bool):
  ∃v,(Instr.lookup t (.map (some b)) (gM aF k) c).run P w= .ok (if c then .tuple #[v,.bool (bX l k).isSome] else v) w/\jn I w aJ ((bX l k).getD (cO aJ)) v:=by
 have J:=fun e=>MapKept.run_checkKey (P:=P) (w:=w) Z (sE H k) e 9999
 rcases z7 (I:=I) (w:=w) H k l bT 0 aC with⟨bM,bU,_⟩ |⟨j,x,e,bM,bU,_,_,a5,_⟩
 .refine⟨aH,?_,by rw[bU];exact wF⟩;have hf:=MapKept.run_findKey (P:=P) (w:=w) Z bM;rw[bU];simp[Instr.lookup,run_underlying cq,az1 O,J,hf,aM,Result.andThen]
 .refine⟨e.val,?_,by rw[bU];exact a5⟩;have hf:=MapKept.run_findKey (P:=P) (w:=w) Z bM;rw[bU];simp[Instr.lookup,run_underlying cq,az1 O,J,hf,Result.andThen]
def P4: ∀{l:List (aa aF×aa aJ)} {es:aJ1},io I w aF aJ l es-> ∀{k:aa aF} {x:aa aJ} {e:MapEntry},e.key=gM aF k->jn I w aJ x e.val->io I w aF aJ (l++[(k,x)]) (es++[e])
 | [],_,h,k,x,e,E,G=>by rw[show _=[] from h];exact⟨e,[],rfl,E,G,rfl⟩
 |p::l,_,⟨cc,r,h,bM,bU,a3⟩,k,x,e,E,G=>by rw[h];exact⟨cc,r++[e],rfl,bM,bU,P4 a3 E G⟩
def P5: ∀{l:List (aa aF×aa aJ)} {es:aJ1},io I w aF aJ l es-> ∀{k:aa aF} {x:aa aJ} {e:MapEntry} (j:Nat),e.key=gM aF k->jn I w aJ x e.val->io I w aF aJ (l.set j (k,x)) (es.set j e)
 | [],_,h,k,x,e,j,E,G=>by rw[show _=[] from h];rfl
 |p::l,_,⟨cc,r,h,bM,bU,a3⟩,k,x,e,0,E,G=>by rw[h];exact⟨e,r,rfl,E,G,a3⟩
 |p::l,_,⟨cc,r,h,bM,bU,a3⟩,k,x,e,j+1,E,G=>by rw[h];exact⟨cc,r.set j e,rfl,bM,bU,P5 a3 j E G⟩
def P6: ∀{l:List (aa aF×aa aJ)} {es:aJ1},io I w aF aJ l es-> ∀(j:Nat),io I w aF aJ (l.eraseIdx j) (es.eraseIdx j)
 | [],_,h,j=>by rw[show _=[] from h];rfl
 |p::l,_,⟨cc,r,h,bM,bU,a3⟩,0=>by rw[h];exact a3
 |p::l,_,⟨cc,r,h,bM,bU,a3⟩,j+1=>by rw[h];exact⟨cc,r.eraseIdx j,rfl,bM,bU,P6 a3 j⟩
def P7 {es:aJ1} {c:Nat} (h:mm es c) (key val:aI8):mm (es++[⟨key,val,c⟩]) (c+1):=by
 refine⟨?_,fun e U=>?_⟩
 .rw[ay6,List.pairwise_append];refine⟨h.1,aD9,fun a ha b O=>?_⟩;obtain⟨e,U,rfl⟩:=av7.1 ha;simp only[au9,aC9,au5] at O;subst O;exact h.2 e U
 .rcases av9.1 U with U |U
  .have:=h.2 e U;omega
  .simp only[au5] at U;subst U;simp
def Zz {es:aJ1} {c:Nat} (h:mm es c) {j:Nat} {bC e:MapEntry} (V:es[j]? =some bC) (O:e.born=bC.born):mm (es.set j e) c:=by
 have aC:(es.set j e).map (·.born)=es.map (·.born):=by
  rw[List.map_set];refine aB2 fun i=>?_
  rw[aA1]
  split
  .rename_i hi;subst hi;have:=(au0.1 V).1;rw[vj (by simpa using this),av1,V,O];rfl
  .rfl
 refine⟨by rw[aC];exact h.1,fun x hx=>?_⟩;have E:x.born∈(es.set j e).map (·.born):=aw1 hx;rw[aC] at E;obtain⟨y,aD,ZA⟩:=av7.1 E;rw[<-ZA];exact h.2 y aD
def ZB {es:aJ1} {c:Nat} (h:mm es c) (j:Nat):mm (es.eraseIdx j) c:=
 ⟨h.1.sublist ((List.eraseIdx_sublist es j).map _),fun e U=>h.2 e ((List.eraseIdx_sublist es j).subset U)⟩
def ZC (a:aa aF) {d:aJ4} (H:nv aF d=true) (n:Nat):Instr.sameBits (n+1) (gM aF a) (gM aF a)=true:=by
 cases aF <;>cases d <;>simp[nv] at H
 .have: ∀(k:IntKind) (a:Int),Instr.sameBits (n+1) (.int k a) (.int k a)=true:=fun k a=>by simp[Instr.sameBits]
  exact this _ a
 .simp only[gM,Instr.sameBits];exact(MapKept.bytes_beq _ _).2 rfl
def z8 {t kt et:aI3} {d:aJ4} (cq:P.underlying t=some (.map kt et)) (Z:P.underlying kt=some d) (H:nv aF d=true) {b:Nat} {bT:aJ1} {bY:Nat} (O:w.heap[b]? =some (.map (List.toArray bT) bY))
  {l:List (aa aF×aa aJ)} (aC:io I w aF aJ l bT) (de:mm bT bY) (k:aa aF) {x:aa aJ} {v:aI8} (aB:jn I w aJ x v):
  ∃eC iM,(Instr.mapUpdate t (.map (some b)) (gM aF k) v).run P w= .ok () {w with heap:=w.heap.setIfInBounds b (.map (List.toArray eC) iM)}/\io I w aF aJ (dp l k x) eC/\mm eC iM:=by
 have J:=fun e=>MapKept.run_checkKey (P:=P) (w:=w) Z (sE H k) e 9999
 have ed:=fun o=>MapKept.run_setObj_map (P:=P) o O
 rcases z7 (I:=I) (w:=w) H k l bT 0 aC with⟨bM,bU,a3,_⟩ |⟨j,y,e,bM,bU,a3,a4,a5,fj,_⟩
 .have hf:=MapKept.run_findKey (P:=P) (w:=w) Z bM;refine⟨bT++[⟨gM aF k,v,bY⟩],bY+1,?_,by rw[a3];exact P4 aC rfl aB,P7 de _ _⟩;simp[Instr.mapUpdate,run_underlying cq,az1 O,J,hf,ed,Result.andThen]
 .have hf:=MapKept.run_findKey (P:=P) (w:=w) Z bM;have sD:=(au0.1 a3).1;refine⟨bT.set j ⟨gM aF k,v,e.born⟩,bY,?_,by rw[fj];exact P5 aC j rfl aB,Zz de a3 rfl⟩
  have P8:bT.modify j (fun cc=>{cc with key:=gM aF k,val:=v})=bT.set j ⟨gM aF k,v,e.born⟩:=by
   refine aB2 fun i=>?_
   rw[List.getElem?_modify,aA1]
   by_cases gO:j=i
   .subst gO;have U:=(au0.1 a3).2;simp[sD,U]
   .simp[gO]
  simp[Instr.mapUpdate,run_underlying cq,az1 O,J,hf,ed,Result.andThen,a3,a4,Instr.keyThatStays,ZC k H,P8]
def P9 {t kt et ty:aI3} {d:aJ4} (cq:P.underlying t=some (.map kt et)) (Z:P.underlying kt=some d) (H:nv aF d=true) {b:Nat} {bT:aJ1} {bY:Nat} (O:w.heap[b]? =some (.map (List.toArray bT) bY))
  {l:List (aa aF×aa aJ)} (aC:io I w aF aJ l bT) (de:mm bT bY) (k:aa aF) (ZD:aI3):
  ∃eC,(Builtin.delete_ #[t,ZD] ty #[.map (some b),gM aF k]).run P w= .ok (.tuple #[]) {w with heap:=w.heap.setIfInBounds b (.map (List.toArray eC) bY)}/\io I w aF aJ (gN l k) eC/\mm eC bY:=by
 have J:=fun e=>MapKept.run_checkKey (P:=P) (w:=w) Z (sE H k) e 9999
 have ed:=fun o=>MapKept.run_setObj_map (P:=P) o O
 rcases z7 (I:=I) (w:=w) H k l bT 0 aC with⟨bM,bU,_,a3⟩ |⟨j,y,e,bM,bU,a3,a4,a5,_,fj⟩
 .have hf:=MapKept.run_findKey (P:=P) (w:=w) Z bM;refine⟨bT,?_,by rw[a3];exact aC,de⟩;simp[Builtin.delete_,run_underlying cq,az1 O,J,hf,ed,Result.andThen]
 .have hf:=MapKept.run_findKey (P:=P) (w:=w) Z bM;have sD:=(au0.1 a3).1;refine⟨bT.eraseIdx j,?_,by rw[fj];exact P6 aC j,ZB de j⟩
  have ZE:(List.toArray bT).eraseIdxIfInBounds j=List.toArray (bT.eraseIdx j):=by
   apply Array.ext';unfold Array.eraseIdxIfInBounds;rw[dif_pos (by simpa using sD)];simp
  simp[Builtin.delete_,run_underlying cq,az1 O,J,hf,ed,Result.andThen,ZE]
def ZF {t:aI3}:(Instr.makeMap t none).run P w= .ok (.map (some w.heap.size)) (w.alloc (.map #[] 0)):=by simp only[Instr.makeMap,aw3,run_newObj_alloc,Result.andThen,ax1]
end
end
section
inductive P' where
 |int (k:IntKind)
 |bool
 |str
 |ptr (e:Nat)
 |ci (e:Nat)
 |st
 |arr (n e:Nat)
 |mp (k e:Nat)
 |other
structure b8 where
 kd:P'
 size:Nat
 row:Bool
 zero:List bA
 mU:List (Nat×Nat)
 u:Option bz
 bytes:Nat
inductive df where
 |leaf
 |node (l:df) (k:Nat) (x:b8) (r:df)
def df.find:df->Nat->Option b8
 | .leaf,_=>none
 | .node l k x r,n=>match Nat.blt n k with
  |true=>l.find n
  |false=>match Nat.beq n k with
   |true=>some x
   |false=>r.find n
def Aa (x:D) (k:D->Prop):Prop:=match x with
 | .int i n=>k (.int i n)
 | .lit true=>k (.lit true)
 | .lit false=>k (.lit false)
 | .bool b=>k (.bool b)
 | .str s=>k (.str s)
 | .aL x=>k (.aL x)
 | .da x=>k (.da x)
 | .fn x=>k (.fn x)
 | .b' u xs=>k (.b' u xs)
def Ab (s:bA) (k:bA->Prop):Prop:=match s with
 | .d x=>Aa x fun x=>k (.d x)
 | .ptr c o=>k (.ptr c o)
 | .own c=>k (.own c)
 | .el u x o=>k (.el u x o)
 | .ga c s i o=>k (.ga c s i o)
 | .os c s o n=>k (.os c s o n)
 | .mp c=>k (.mp c)
 | .c2 f l=>k (.c2 f l)
 | .dC=>k .dC
 | .bK v=>k (.bK v)
 | .any=>k .any
def pD (l:List bA) (k:List bA->Prop):Prop:=match l with
 | []=>k []
 |s::l=>Ab s fun s=>pD l fun l=>k (s::l)
def yb (x:dQ) (k:dQ->Prop):Prop:=match x with
 | .one s=>Ab s fun s=>k (.one s)
 | .agg l=>pD l fun l=>k (.agg l)
 | .ko u x=>k (.ko u x)
def Fp (l:List dQ) (k:List dQ->Prop):Prop:=match l with
 | []=>k []
 |s::l=>yb s fun s=>Fp l fun l=>k (s::l)
def oY (x:aN) (k:aN->Prop):Prop:=match x with
 | .c x=>yb x fun x=>k (.c x)
 | .b4 l=>Fp l fun l=>k (.b4 l)
 | .undef=>k .undef
def Jx (x:D) (k:D->Prop):Aa x k=k x:=by
 cases x with
 |lit b=>cases b <;>rfl
 |_=>rfl
def Jy (x:bA) (k:bA->Prop):Ab x k=k x:=by
 cases x with
 |d x=>simp only[Ab,Jx]
 |_=>rfl
def Ac (l:List bA) (k:List bA->Prop):pD l k=k l:=by
 induction l generalizing k with
 |nil=>rfl
 |cons s l bk=>simp only[pD,Jy,bk]
def Fq (x:dQ) (k:dQ->Prop):yb x k=k x:=by
 cases x with
 |one x=>simp only[yb,Jy]
 |agg l=>simp only[yb,Ac]
 |ko u x=>rfl
def ZG (l:List dQ) (k:List dQ->Prop):Fp l k=k l:=by
 induction l generalizing k with
 |nil=>rfl
 |cons s l bk=>simp only[Fp,Fq,bk]
def sF (x:aN) (k:aN->Prop):oY x k=k x:=by
 cases x with
 |c x=>simp only[oY,Fq]
 |b4 l=>simp only[oY,ZG]
 |undef=>rfl
structure fk where
 jo:aH4
 ba:aH4
 iB:List (Nat×Option a8)
abbrev bC:fk:=⟨[],[],[]⟩
def hk:List (Nat×Option a8)->ay->ay
 | [],B=>B
 |(c,none)::l,B=>hk l (gT B c)
 |(c,some ch)::l,B=>hk l ((c,ch)::B)
def Ad (c:Nat):aH4->Bool
 | []=>false
 |d::l=>match Nat.beq c d with
  |true=>true
  |false=>Ad c l
def u0 (ks:aH4):ay->ay
 | []=>[]
 |(c,ch)::B=>match Ad c ks with
  |true=>u0 ks B
  |false=>(c,ch)::u0 ks B
def Fr: ∀B:ay,u0 [] B=B
 | []=>rfl
 |(c,ch)::B=>at2 ((c,ch):: ·) (Fr B)
def Qa (c:Nat) (ks:aH4): ∀B:ay,u0 (c::ks) B=gT (u0 ks B) c
 | []=>rfl
 |(d,ch)::B=>by
  have bk:=Qa c ks B;simp only[u0,Ad]
  cases E:Nat.beq d c <;>cases G:Ad d ks <;>simp only[gT,E,bk]
noncomputable def Fs (ks:aH4) (B:ay) (k:ay->Prop):Prop:=match ks with
 | []=>k B
 |ks=>List.rec (motive:=fun _=>(ay->Prop)->Prop) (fun k=>k []) (fun p _ bk k=>match p with
  |(c,ch)=>match Ad c ks with
   |true=>bk k
   |false=>bk fun l=>k ((c,ch)::l)) B k
def Qb (ks:aH4) (B:ay) (k:ay->Prop):Fs ks B k=k (u0 ks B):=by
 match ks with
 | []=>exact at2 k (Fr B).symm
 |d::ks=>
  show List.rec (motive:=fun _=>(ay->Prop)->Prop) _ _ B k=_
  induction B generalizing k with
  |nil=>rfl
  |cons p l bk=>
   obtain⟨c,ch⟩:=p;simp only[u0]
   cases h:Ad c (d::ks)
   .exact bk _
   .exact bk _
noncomputable def Jz (iB:List (Nat×Option a8)) (ks:aH4) (B:ay) (k:ay->Prop):Prop:=
 List.rec (motive:=fun _=>aH4->ay->Prop) (fun ks B=>Fs ks B k) (fun p _ bk ks B=>match p with
  |(c,none)=>bk (c::ks) B
  |(c,some ch)=>Fs ks B fun B=>bk [] ((c,ch)::B)) iB ks B
noncomputable def yc (iB:List (Nat×Option a8)) (B:ay) (k:ay->Prop):Prop:=Jz iB [] B k
def ZH (iB:List (Nat×Option a8)) (k:ay->Prop): ∀(ks:aH4) (B:ay),Jz iB ks B k=k (hk iB (u0 ks B)):=by
 induction iB with
 |nil=>exact fun ks B=>Qb ks B k
 |cons p l bk=>
  intro ks B;obtain⟨c,o⟩:=p
  cases o with
  |none=>exact(bk (c::ks) B).trans (by rw[Qa];rfl)
  |some ch=>
   show Fs ks B (fun B=>Jz l [] ((c,ch)::B) k)=_;rw[Qb,bk,Fr];rfl
def JA (iB:List (Nat×Option a8)) (B:ay) (k:ay->Prop):yc iB B k=k (hk iB B):=(ZH iB k [] B).trans (by rw[Fr])
def u1 (c:Nat):aW->Bool
 | []=>true
 |(_,v)::K=> !v.has c&&u1 c K
def kQ (c:Nat):ay->Bool
 | []=>true
 |(d,ch)::B=> !Nat.beq d c&& !ch.has c&&kQ c B
def g7 (ids:aH4) (K:aW) (B:ay) (c:Nat):Bool:=u1 c K&&kQ c B&& !ids.contains c
abbrev nw (s:bA):aN:=.c (.one s)
abbrev ab (n:Int):aN:=.c (.one (.d (.int .i64 n)))
abbrev gb (b:Bool):aN:=.c (.one (.d (.bool b)))
abbrev qq (b:Bool):aN:=.c (.one (.d (.lit b)))
abbrev bN (s:aH3):aN:=.c (.one (.d (.str s)))
abbrev bE (u:bz) (xs:List (aa u)):aN:=.c (.one (.d (.b' u xs)))
abbrev ap (c:Nat):aN:=.c (.one (.ptr c 0))
abbrev dY (c:Nat):aN:=.c (.one (.own c))
def bA.ok:bA->Bool
 | .any=>false
 | .bK (.agg _)=>false
 | .bK (.tuple _)=>false
 |_=>true
def Ft:List bA->Bool
 | []=>true
 |s::l=>s.ok&&Ft l
def wG:aN->Option (List bA)
 | .c (.one s)=>match s.ok with
  |true=>some [s]
  |false=>none
 | .c (.agg l)=>match Ft l with
  |true=>some l
  |false=>none
 |_=>none
def CH (l:List bA) (o:Nat) (cs:List bA):List bA:=l.take o++cs++l.drop (o+cs.length)
def wH (K:aW) (mU:Nat->Option (Nat×Nat)):List (Nat×Operand)->List bA->Option (List bA)
 | [],l=>some l
 |(i,x)::bF,l=>match mU i,wG (a1 K x) with
  |some (o,n),some cs=>match Nat.beq cs.length n,Nat.ble (o+n) l.length with
   |true,true=>wH K mU bF (CH l o cs)
   |_,_=>none
  |_,_=>none
def rv:(u v:bz)->Option (PLift (u=v))
 | .int .i64,.int .i64=>some ⟨rfl⟩
 | .int .u8,.int .u8=>some ⟨rfl⟩
 | .int .u16,.int .u16=>some ⟨rfl⟩
 | .int .u32,.int .u32=>some ⟨rfl⟩
 | .int .u64,.int .u64=>some ⟨rfl⟩
 | .int .i32,.int .i32=>some ⟨rfl⟩
 | .u8,.u8=>some ⟨rfl⟩
 | .bool,.bool=>some ⟨rfl⟩
 | .str,.str=>some ⟨rfl⟩
 | .aL,.aL=>some ⟨rfl⟩
 | .da,.da=>some ⟨rfl⟩
 | .fn,.fn=>some ⟨rfl⟩
 | .ci u,.ci v=>match rv u v with
  |some ⟨h⟩=>some ⟨at2 bz.ci h⟩
  |none=>none
 | .bV u tQ,.bV v dA=>match rv u v,rv tQ dA with
  |some ⟨h⟩,some ⟨h'⟩=>some ⟨h▸h'▸rfl⟩
  |_,_=>none
 | .arr n u,.arr m v=>match rv u v with
  |some ⟨h⟩=>if hn:n=m then some ⟨hn▸h▸rfl⟩ else none
  |none=>none
 |_,_=>none
def mo:IntKind->IntKind->Bool
 | .i64,.i64=>true
 | .u8,.u8=>true
 | .u16,.u16=>true
 | .u32,.u32=>true
 | .u64,.u64=>true
 | .i32,.i32=>true
 | .i16,.i16=>true
 | .i8,.i8=>true
 |_,_=>false
def n3 {u v:bz} (h:u=v) (xs:List (aa u)):List (aa v):=match v,h with
 |_,rfl=>xs
def JB {u v:bz} (h:u=v) (x:aa u):aa v:=match v,h with
 |_,rfl=>x
def JC (x y:D):Prop:=match x,y with
 | .int k a,.int ec b=>match mo k ec with
  |true=>a=b
  |false=>False
 | .str a,.str b=>a=b
 | .aL a,.aL b=>a=b
 | .da a,.da b=>a=b
 | .fn a,.fn b=>a=b
 | .bool a,.bool b=>a=b
 | .lit a,.lit b=>a=b
 | .lit a,.bool b=>a=b
 | .b' u xs,.b' v ys=>match rv u v with
  |some ⟨h⟩=>n3 h xs=ys
  |none=>False
 |_,_=>False
def Fu (s t:bA):Prop:=match t,s with
 | .any,_=>True
 | .d y,.d x=>JC x y
 | .d (.b' u ys),.dC=>ys=[]
 |t,s=>s=t
def Fv:List bA->List bA->Prop
 | [],[]=>True
 |s::l,t::m=>Fu s t/\Fv l m
 |_,_=>False
def Fw (s t:dQ):Prop:=match s,t with
 | .one s,.one t=>Fu s t
 | .agg l,.agg m=>Fv l m
 | .agg _,.one .any=>True
 | .ko u x,.ko v y=>match rv u v with
  |some ⟨h⟩=>JB h x=y
  |none=>False
 | .ko _ _,.one .any=>True
 |_,_=>False
def JD:List dQ->List dQ->Prop
 | [],[]=>True
 |s::l,t::m=>Fw s t/\JD l m
 |_,_=>False
def tR (s t:aN):Prop:=match s,t with
 | .c s,.c t=>Fw s t
 | .b4 l,.b4 m=>JD l m
 | .undef,.undef=>True
 |_,.c (.one .any)=>True
 |_,_=>False
def Fx:List aN->List aN->Prop
 | [],[]=>True
 |s::l,t::m=>tR s t/\Fx l m
 |_,_=>False
def JE:Option Prop->Option Prop->Option Prop
 |none,q=>q
 |some p,none=>some p
 |some p,some q=>some (p/\q)
def u2:Option Prop->Prop
 |none=>True
 |some p=>p
def JF (k:IntKind):List bA->Option (Int×List bA×Option Prop)
 | .d (.int ec n)::l=>match mo ec k with
  |true=>some (n,l,none)
  |false=>none
 |_=>none
def JG:List bA->Option (UInt8×List bA×Option Prop)
 | .d (.int ec n)::l=>match mo ec .u8 with
  |true=>some (UInt8.ofNat n.toNat,l,some (0<=n/\n < 256))
  |false=>none
 |_=>none
def JH:List bA->Option (Bool×List bA×Option Prop)
 | .d (.lit b)::l=>some (b,l,none)
 | .d (.bool b)::l=>some (b,l,none)
 |_=>none
def JI:List bA->Option (aH3×List bA×Option Prop)
 | .d (.str s)::l=>some (s,l,none)
 |_=>none
def JJ:List bA->Option (Option Nat×List bA×Option Prop)
 | .d (.aL x)::l=>some (x,l,none)
 | .bK (.pointer none)::l=>some (none,l,none)
 |_=>none
def JK:List bA->Option (Option (Nat×Nat×Nat)×List bA×Option Prop)
 | .d (.da x)::l=>some (x,l,none)
 | .dC::l=>some (none,l,none)
 |_=>none
def CI:List kL->Option aH4
 | []=>some []
 | .d (.aL (some b))::l=>match CI l with
  |some r=>some (b::r)
  |none=>none
 |_=>none
def JL:List bA->Option ((Nat×aH4)×List bA×Option Prop)
 | .d (.fn x)::l=>some (x,l,none)
 | .c2 f m::l=>match CI m with
  |some bs=>some ((f,bs),l,none)
  |none=>none
 |_=>none
def JM (u:bz):List bA->Option (List (aa u)×List bA×Option Prop)
 | .dC::l=>some ([],l,none)
 | .d (.b' v xs)::l=>match rv v u with
  |some ⟨h⟩=>some (n3 h xs,l,none)
  |none=>none
 |_=>none
def n4:(u:bz)->List bA->Option (aa u×List bA×Option Prop)
 | .int k,l=>JF k l
 | .u8,l=>JG l
 | .bool,l=>JH l
 | .str,l=>JI l
 | .aL,l=>JJ l
 | .da,l=>JK l
 | .fn,l=>JL l
 | .ci u,l=>JM u l
 | .bV u v,l=>match n4 u l with
  |some (x,l,p)=>match n4 v l with
   |some (y,l,q)=>some ((x,y),l,JE p q)
   |none=>none
  |none=>none
 | .arr _ _,_=>none
def yd (u:bz):Nat->List bA->Option (List (aa u)×Option Prop)
 |0,[]=>some ([],none)
 |0,_=>none
 |n+1,l=>match n4 u l with
  |some (x,l,p)=>match yd u n l with
   |some (xs,q)=>some (x::xs,JE p q)
   |none=>none
  |none=>none
def Fy (n:Nat) (l:List bA):List bA:=match n with
 |0=>[]
 |n+1=>l++Fy n l
def gw (u:bz) (x:aa u) (o:Nat):Nat->List bA
 |0=>[]
 |n+1=>.d (fB u x o)::gw u x (o+1) n
def wI (k:IntKind) (n:Int):Prop:=match k with
 | .i64=> -9223372036854775808<=n/\n<=9223372036854775807
 | .u8=>0<=n/\n < 256
 | .u16=>0<=n/\n < 65536
 | .u32=>0<=n/\n < 4294967296
 | .u64=>0<=n/\n < 18446744073709551616
 | .i32=> -2147483648<=n/\n<=2147483647
 | .i16=> -32768<=n/\n<=32767
 | .i8=> -128<=n/\n<=127
def jp (P:aI0) (f:aI9):Bool:=match P.funcs[f]? with
 |some fn=> !(fn.name == "runtime.NumGoroutine" ||fn.body.isNone)
 |none=>false
def Fn (P:aI0) (f:aI9) (args:List aN) (aK:ay) (ba:aH4) (res:aN) (aO:ay):Prop:=
 jp P f=true/\ ∀(ρ:Nat->bp) (F:Nat->Nat->Prop) (I:Nat->Prop) (w:aH9) (b0:aH7),
  (∀b,I b->b < w.heap.size)->(∀c ch,ae aK c=some ch->Holds ρ I (F c) w (ρ c) ch)->(∀c ch,ae aK c=some ch-> ∀b,F c b->b < w.heap.size/\ ¬I b)->
  (∀c cn ch ch' b,ae aK c=some ch->ae aK cn=some ch'->c≠cn->F c b-> ¬F cn b)->
  b0.length=args.length->(∀(i:Nat) (v:aN) (x:aI8),args[i]? =some v->b0[i]? =some x->cx ρ I w v x)->
  Calls P f b0.toArray w fun e w'=> ∃(x:aI8) (ρ':Nat->bp) (F':Nat->Nat->Prop),e= .returned x/\cU (fun b=> ∃c ch,ae aK c=some ch/\F c b) w w'/\(∀c,c∉ba->ρ' c=ρ c)/\
   ∃I':Nat->Prop,cm I w I' w'/\(∀b,I' b->b < w'.heap.size/\(I b\/(∃c ch,ae aK c=some ch/\F c b)\/w.heap.size<=b))/\
   (∀c ch,ae aO c=some ch->Holds ρ' I' (F' c) w' (ρ' c) ch)/\
   (∀c ch,ae aO c=some ch-> ∀b,F' c b->b < w'.heap.size/\ ¬I' b/\((∃gU cB,ae aK gU=some cB/\F gU b)\/w.heap.size<=b))/\
   (∀c cn ch ch' b,ae aO c=some ch->ae aO cn=some ch'->c≠cn->F' c b-> ¬F' cn b)/\cx ρ' I' w' res x
def la (B:ay):ay->Prop
 | []=>True
 |(c,ch)::l=>ae B c=some ch/\la B l
def ck:ay->aH4
 | []=>[]
 |(c,_)::l=>c::ck l
def JN:ay->List (Nat×Option a8)
 | []=>[]
 |(c,ch)::l=>(c,some ch)::JN l
def iC:ay->ay->List (Nat×Option a8)
 | [],m=>JN m
 |(c,_)::l,m=>(c,none)::iC l m
def mV (aK:ay) (ba:aH4):ay->Bool
 | []=>true
 |(c,_)::l=>((ck aK).contains c||ba.contains c)&& !(ck l).contains c&&mV aK ba l
def sG (ids:aH4) (K:aW) (B:ay):aH4->Bool
 | []=>true
 |c::l=>g7 ids K B c&& !l.contains c&&sG ids K B l
def ye (P:aI0) (f:aI9) (args:List aN) (ids:aH4) (K:aW) (B:ay) (k:aN->fk->Prop):Prop:=
 ∃aK ba res aO,Fn P f args aK ba res aO/\la B aK/\(sG ids K B ba&&mV aK ba aO)=true/\oY res fun r=>k r ⟨ck aK,ba,iC aK aO⟩
def n9 (k:IntKind) (n:Int) (q:Prop):Prop:=match k with
 | .i64=>(-9223372036854775808<=n/\n<=9223372036854775807)/\q
 | .u8=>(0<=n/\n < 256)/\q
 | .u16=>(0<=n/\n < 65536)/\q
 | .u32=>(0<=n/\n < 4294967296)/\q
 | .u64=>(0<=n/\n < 18446744073709551616)/\q
 | .i32=>(-2147483648<=n/\n<=2147483647)/\q
 | .i16=>(-32768<=n/\n<=32767)/\q
 | .i8=>(-128<=n/\n<=127)/\q
def yf {k:IntKind} {n:Int} {q:Prop} (h:n9 k n q):wI k n/\q:=by cases k <;>exact h
def yg:List aN->Option (List kL)
 | []=>some []
 | .c (.one (.ptr c o))::l=>match yg l with
  |some r=>some (.p c o::r)
  |none=>none
 | .c (.one (.d x))::l=>match yg l with
  |some r=>some (.d x::r)
  |none=>none
 |_=>none
def u3:aH4->List aN
 | []=>[]
 |b::l=>.c (.one (.d (.aL (some b))))::u3 l
def n':List kL->List aN
 | []=>[]
 | .p c o::l=>.c (.one (.ptr c o))::n' l
 | .d x::l=>.c (.one (.d x))::n' l
def Fz (op:BinOp) (x y:aN) (k:aN->fk->Prop):Prop:=match x,y with
 | .c (.one (.d (.int i a))),.c (.one (.d (.int j b)))=>match mo i j,op with
  |true,.add=>n9 i (a+b) (k (.c (.one (.d (.int i (a+b))))) bC)
  |true,.sub=>n9 i (a - b) (k (.c (.one (.d (.int i (a - b))))) bC)
  |true,.mul=>n9 i (a*b) (k (.c (.one (.d (.int i (a*b))))) bC)
  |true,.quo=>(0<=a/\0 < b)/\n9 i (a/b) (k (.c (.one (.d (.int i (a/b))))) bC)
  |true,.rem=>(0<=a/\0 < b)/\n9 i (a % b) (k (.c (.one (.d (.int i (a % b))))) bC)
  |_,.shl=>match mo i .i64 with
   |true=>(0<=a/\0<=b/\b<=64)/\n9 i (a*(2 ^b.toNat:Nat)) (k (.c (.one (.d (.int i (a*(2 ^b.toNat:Nat)))))) bC)
   |false=>False
  |_,.shr=>match mo i .i64 with
   |true=>(0<=a/\0<=b/\b<=64)/\k (.c (.one (.d (.int i (a/(2 ^b.toNat:Nat)))))) bC
   |false=>False
  |true,.or=>match mo i .i64 with
   |true=>(0<=a/\a<=9223372036854775807/\0<=b/\b<=9223372036854775807)/\k (.c (.one (.d (.int i ((a.toNat ||| b.toNat:Nat):Int))))) bC
   |false=>False
  |true,.eql=>k (.c (.one (.d (.bool (decide (a=b)))))) bC
  |true,.neq=>k (.c (.one (.d (.bool (!decide (a=b)))))) bC
  |true,.lss=>k (.c (.one (.d (.bool (decide (a < b)))))) bC
  |true,.leq=>k (.c (.one (.d (.bool (decide (a<=b)))))) bC
  |true,.gtr=>k (.c (.one (.d (.bool (decide (b < a)))))) bC
  |true,.geq=>k (.c (.one (.d (.bool (decide (b<=a)))))) bC
  |_,_=>False
 | .c (.one (.d (.str a))),.c (.one (.d (.str b)))=>match op with
  | .add=>a.length+b.length<=4294967296/\k (.c (.one (.d (.str (a++b))))) bC
  | .eql=>k (.c (.one (.d (.bool (decide (a=b)))))) bC
  | .neq=>k (.c (.one (.d (.bool (!decide (a=b)))))) bC
  | .lss=>k (.c (.one (.d (.bool (Op.bytesLess a b))))) bC
  | .leq=>k (.c (.one (.d (.bool (Op.bytesLess a b||decide (a=b)))))) bC
  | .gtr=>k (.c (.one (.d (.bool (!(Op.bytesLess a b||decide (a=b))))))) bC
  | .geq=>k (.c (.one (.d (.bool (!Op.bytesLess a b))))) bC
  |_=>False
 | .c (.one (.ptr _ _)),.c (.one (.bK (.pointer none)))=>match op with
  | .eql=>k (.c (.one (.d (.lit false)))) bC
  | .neq=>k (.c (.one (.d (.lit true)))) bC
  |_=>False
 | .c (.one (.bK (.pointer none))),.c (.one (.bK (.pointer none)))=>match op with
  | .eql=>k (.c (.one (.d (.lit true)))) bC
  | .neq=>k (.c (.one (.d (.lit false)))) bC
  |_=>False
 |_,_=>False
def JO (aQ:df) (T:Nat):Bool:=match aQ.find T with
 |some ti=>match ti.kd with
  | .ptr _=>true
  |_=>false
 |none=>false
def Ae (aQ:df) (T:Nat):Bool:=match aQ.find T with
 |some ti=>match ti.kd with
  | .ptr e=>match aQ.find e with
   |some _=>true
   |none=>false
  |_=>false
 |none=>false
def FA (aQ:df) (T:Nat) (x:aI4) (y:aN) (k:Bool->Prop):Prop:=match y with
 | .c (.one (.bK (.pointer none)))=>(∀b,x=some b->k false)/\(x=none->k true)
 | .c (.one (.d (.aL y)))=>match Ae aQ T with
  |true=>x=y/\k true
  |false=>False
 |_=>False
def FB (aQ:df) (T:Nat) (op:BinOp) (x y:aN) (k:aN->fk->Prop):Prop:=match x with
 | .c (.one (.d (.aL x)))=>match op with
  | .eql=>FA aQ T x y fun b=>k (.c (.one (.d (.lit b)))) bC
  | .neq=>FA aQ T x y fun b=>k (.c (.one (.d (.lit !b)))) bC
  |_=>False
 |x=>Fz op x y k
def FC (aQ:df) (T:Nat):Bool:=match aQ.find T with
 |some ti=>match ti.kd with
  | .bool=>true
  |_=>false
 |none=>false
def FD (op:BinOp) (a:Bool) (y:aN) (k:aN->fk->Prop):Prop:=match op,y with
 | .eql,.c (.one (.d (.bool b)))=>k (.c (.one (.d (.bool (a == b))))) bC
 | .eql,.c (.one (.d (.lit b)))=>k (.c (.one (.d (.bool (a == b))))) bC
 | .neq,.c (.one (.d (.bool b)))=>k (.c (.one (.d (.bool (!(a == b)))))) bC
 | .neq,.c (.one (.d (.lit b)))=>k (.c (.one (.d (.bool (!(a == b)))))) bC
 |_,_=>False
def JP (aQ:df) (T f:Nat):Option (Nat×Nat):=match aQ.find T with
 |some ti=>match ti.kd with
  | .st=>ti.mU[f]?
  |_=>none
 |none=>none
def elemOf (aQ:df) (T:Nat):Option (Nat×b8):=match aQ.find T with
 |some ti=>match ti.kd with
  | .ci e=>match aQ.find e with
   |some te=>some (e,te)
   |none=>none
  |_=>none
 |none=>none
def yh (aQ:df) (T:Nat):Bool:=match aQ.find T with
 |some ti=>match ti.kd with
  | .str=>true
  |_=>false
 |none=>false
def yi (aQ:df) (T:Nat):Option (Nat×Nat):=match aQ.find T with
 |some ti=>match ti.kd with
  | .mp k e=>some (k,e)
  |_=>none
 |none=>none
def JQ (aQ:df) (T:Nat) (B:ay) (x:aN):Option (Nat×aH4):=match x with
 | .c (.one (.d (.str s)))=>match yh aQ T with
  |true=>some (s.length,[])
  |false=>none
 | .c (.one (.d (.b' _ xs)))=>match elemOf aQ T with
  |some _=>some (xs.length,[])
  |none=>none
 | .c (.one .dC)=>match elemOf aQ T with
  |some _=>some (0,[])
  |none=>none
 | .c (.one (.own c))=>match elemOf aQ T with
  |some _=>match ae B c with
   |some (.row _ _ xs)=>some (xs.length,[c])
   |_=>none
  |none=>none
 | .c (.one (.mp c))=>match yi aQ T with
  |some _=>match ae B c with
   |some (.map _ _ es)=>some (es.length,[c])
   |_=>none
  |none=>none
 |_=>none
def pE (aQ:df) (e:Nat):Bool:=match aQ.find e with
 |some te=>match te.kd,te.zero,te.size,te.bytes with
  | .int .u8,[.d (.int .u8 0)],1,1=>true
  |_,_,_,_=>false
 |none=>false
def JR (aQ:df) (S T:Nat) (x:aN) (B:ay) (k:aN->fk->Prop):Prop:=match aQ.find S,aQ.find T with
 |some Qc,some ti=>match Qc.kd,ti.kd,x with
  | .int i,.int j,.c (.one (.d (.int _ n)))=>match mo j .u8,mo i .u8 with
   |true,false=>k (.c (.one (.d (.int j (n % 256))))) bC
   |_,_=>n9 j n (k (.c (.one (.d (.int j n)))) bC)
  | .str,.ci e,.c (.one (.d (.str s)))=>match pE aQ e with
   |true=>s.length<=4294967296/\k (.c (.one (.d (.b' .u8 s)))) bC
   |false=>False
  | .ci e,.str,.c (.one (.d (.b' .u8 s)))=>match pE aQ e with
   |true=>k (.c (.one (.d (.str s)))) bC
   |false=>False
  | .ci e,.str,.c (.one .dC)=>match pE aQ e with
   |true=>k (.c (.one (.d (.str [])))) bC
   |false=>False
  | .ci e,.str,.c (.one (.own c))=>match ae B c,pE aQ e with
   |some (.row _ .u8 s),true=>k (.c (.one (.d (.str s)))) ⟨[c],[],[]⟩
   |_,_=>False
  |_,_,_=>False
 |_,_=>False
def yj (n:Nat) (lo hi:Option aN):Option (Nat×Nat×Prop):=match lo,hi with
 |none,some (.c (.one (.d (.int .i64 j))))=>some (0,j.toNat,0<=j/\j<=n)
 |some (.c (.one (.d (.int .i64 i)))),none=>some (i.toNat,n,0<=i/\i<=n)
 |some (.c (.one (.d (.int .i64 i)))),some (.c (.one (.d (.int .i64 j))))=>some (i.toNat,j.toNat,0<=i/\i<=j/\j<=n)
 |none,none=>some (0,n,True)
 |_,_=>none
def JS (aQ:df) (T:Nat) (x:aN) (lo hi:Option aN) (k:aN->fk->Prop):Prop:=match x with
 | .c (.one (.d (.str s)))=>match yh aQ T,yj s.length lo hi with
  |true,some (l,h,p)=>p/\k (.c (.one (.d (.str ((s.take h).drop l))))) bC
  |_,_=>False
 | .c (.one (.d (.b' u xs)))=>match elemOf aQ T,yj xs.length lo hi with
  |some (_,te),some (l,h,p)=>match Nat.beq te.size (aR u) with
   |true=>p/\k (.c (.one (.d (.b' u ((xs.take h).drop l))))) bC
   |false=>False
  |_,_=>False
 |_=>False
def JT (aQ:df) (T:Nat) (x y:aN) (dst:aI4) (ids:aH4) (K:aW) (B:ay) (k:aN->fk->Prop):Prop:=match elemOf aQ T,dst with
 |some (e,te),some d=>match te.u,y with
  |some u,.c (.one (.d (.b' v ys)))=>match rv v u with
   |some ⟨h⟩=>match x with
    | .c (.one .dC)=>ys.length<=4294967296/\g7 ids K B d=true/\k (.c (.one (.own d))) ⟨[],[d],[(d,some (.row e u (n3 h ys)))]⟩
    | .c (.one (.own c))=>match ae B c with
     |some (.row cc tQ xs)=>match Nat.beq cc e,rv tQ u with
      |true,some ⟨h'⟩=>xs.length+ys.length<=4294967296/\g7 ids K B d=true/\k (.c (.one (.own d))) ⟨[c],[d],[(c,none),(d,some (.row e u (n3 h' xs++n3 h ys)))]⟩
      |_,_=>False
     |_=>False
    |_=>False
   |none=>False
  |some u,.c (.one (.own cp))=>match x with
   | .c (.one (.own c))=>match ae B c,ae B cp with
    |some (.row cc tQ xs),some (.row ao v ys)=>match Nat.beq c cp,Nat.beq cc e,rv v u,rv tQ u with
     |false,true,some ⟨h⟩,some ⟨h'⟩=>xs.length+ys.length<=4294967296/\g7 ids K B d=true/\k (.c (.one (.own d))) ⟨[c,cp],[d],[(c,none),(d,some (.row e u (n3 h' xs++n3 h ys)))]⟩
     |_,_,_,_=>False
    |_,_=>False
   |_=>False
  |_,_=>False
 |_,_=>False
def JU (aQ:df) (T ew:Nat) (x y:aN) (dst:aI4) (ids:aH4) (K:aW) (B:ay) (k:aN->fk->Prop):Prop:=match elemOf aQ T,yh aQ ew,dst with
 |some (e,te),true,some d=>match x,y with
  | .c (.one (.own c)),.c (.one (.d (.str s)))=>match pE aQ e,ae B c with
   |true,some (.row cc .u8 xs)=>match Nat.beq cc e with
    |true=>List.length (α:=UInt8) xs+s.length<=4294967296/\g7 ids K B d=true/\k (.c (.one (.own d))) ⟨[c],[d],[(c,none),(d,some (.row e .u8 (List.append (α:=UInt8) xs s)))]⟩
    |false=>False
   |_,_=>False
  |_,_=>False
 |_,_,_=>False
def yk:(aF:bz)->aN->Option (aa aF)
 | .int k,.c (.one (.d (.int ec n)))=>match mo ec k with
  |true=>some n
  |false=>none
 | .str,.c (.one (.d (.str s)))=>some s
 |_,_=>none
def Af:(u:bz)->aa u->dQ
 | .bV u v,x=>.agg (gw (.bV u v) x 0 (aR (.bV u v)))
 | .arr n u,x=>.agg (gw (.arr n u) x 0 (aR (.arr n u)))
 | .int k,x=>.one (.d (fB (.int k) x 0))
 | .u8,x=>.one (.d (fB .u8 x 0))
 | .bool,x=>.one (.d (fB .bool x 0))
 | .str,x=>.one (.d (fB .str x 0))
 | .aL,x=>.one (.d (fB .aL x 0))
 | .da,x=>.one (.d (fB .da x 0))
 | .fn,x=>.one (.d (fB .fn x 0))
 | .ci u,x=>.one (.d (fB (.ci u) x 0))
def FE:bA->D->Bool
 | .d (.int k n),.int ec m=>mo k ec&&decide (n=m)
 | .d (.str []),.str []=>true
 | .bK (.pointer none),.aL none=>true
 | .dC,.da none=>true
 | .d (.lit b),.bool c=>b == c
 | .dC,.b' _ []=>true
 |_,_=>false
def iD:List bA->List bA->Bool
 | [],[]=>true
 |s::l,.d x::m=>FE s x&&iD l m
 |_,_=>false
def yl (aQ:df) (kt:Nat) (aF:bz):Bool:=match aQ.find kt with
 |some ti=>match ti.kd,aF with
  | .int k,.int ec=>mo k ec
  | .str,.str=>true
  |_,_=>false
 |none=>false
def FF (aQ:df) (et:Nat) (aJ:bz):Bool:=match aQ.find et with
 |some ti=>iD ti.zero (gw aJ (cO aJ) 0 (aR aJ))&&(ti.row == !nt aJ)&&(nt aJ||Nat.ble 2 (aR aJ))
 |none=>false
def JV (aQ:df) (T:Nat) (x i:aN) (ok:Bool) (B:ay) (k:aN->fk->Prop):Prop:=match x with
 | .c (.one (.mp c))=>match ae B c with
  |some (.map aF aJ es)=>match yi aQ T,yk aF i with
   |some (kt,et),some key=>match yl aQ kt aF&&FF aQ et aJ,ok with
    |true,true=>yb (Af aJ ((bX es key).getD (cO aJ))) fun x=>k (.b4 [x,.one (.d (.bool (bX es key).isSome))]) ⟨[c],[],[]⟩
    |true,false=>yb (Af aJ ((bX es key).getD (cO aJ))) fun x=>k (.c x) ⟨[c],[],[]⟩
    |false,_=>False
   |_,_=>False
  |_=>False
 |_=>False
def JW (u:bz) (x:aN):Option (aa u×Option Prop):=match x with
 | .c (.ko v y)=>match rv v u,nt u with
  |some ⟨h⟩,false=>some (JB h y,none)
  |_,_=>none
 | .c (.one s)=>match nt u,n4 u [s] with
  |true,some (y,[],p)=>some (y,p)
  |_,_=>none
 | .c (.agg l)=>match nt u,n4 u l with
  |false,some (y,[],p)=>some (y,p)
  |_,_=>none
 |_=>none
def JX (aQ:df) (T:Nat) (x i v:aN) (B:ay) (k:aN->fk->Prop):Prop:=match x with
 | .c (.one (.mp c))=>match ae B c with
  |some (.map aF aJ es)=>match yi aQ T,yk aF i with
   |some (kt,et),some key=>match yl aQ kt aF,JW aJ v with
    |true,some (y,p)=>u2 p/\k .undef ⟨[c],[],[(c,some (.map aF aJ (dp es key y)))]⟩
    |true,none=>match v,nt aJ with
     | .c (.agg l),false=> ∃y:aa aJ,(oV aJ y/\l=gw aJ y 0 (aR aJ))/\k .undef ⟨[c],[],[(c,some (.map aF aJ (dp es key y)))]⟩
     |_,_=>False
    |false,_=>False
   |_,_=>False
  |_=>False
 |_=>False
def JY (aQ:df) (T:Nat) (x i:aN) (B:ay) (k:aN->fk->Prop):Prop:=match x with
 | .c (.one (.mp c))=>match ae B c with
  |some (.map aF aJ es)=>match yi aQ T,yk aF i with
   |some (kt,et),some key=>match yl aQ kt aF with
    |true=>k (.b4 []) ⟨[c],[],[(c,some (.map aF aJ (gN es key)))]⟩
    |false=>False
   |_,_=>False
  |_=>False
 |_=>False
def JZ (aQ:df) (T:Nat) (dst:aI4) (ids:aH4) (K:aW) (B:ay) (k:aN->fk->Prop):Prop:=match yi aQ T,dst with
 |some (kt,et),some d=>match aQ.find kt,aQ.find et with
  |some Qd,some ym=>match Qd.u,ym.u with
   |some aF,some aJ=>g7 ids K B d=true/\k (.c (.one (.mp d))) ⟨[],[d],[(d,some (.map aF aJ []))]⟩
   |_,_=>False
  |_,_=>False
 |_,_=>False
def J0 (aQ:df) (T c:Nat) (B:ay) (k:aN->fk->Prop):Prop:=match aQ.find T with
 |some ti=>match ti.kd,ti.u with
  | .arr n e,some (.arr m v)=>match Nat.beq n m&&Nat.ble n 1000000&&Nat.blt 0 n,aQ.find e,ae B c with
   |true,some _,some (.cells l)=> ∃ys:List (aa v),(oV (.arr n v) ys/\l=gw (.arr n v) ys 0 (aR (.arr n v)))/\k (.c (.one (.d (.b' v ys)))) ⟨[c],[],[(c,none)]⟩
   |_,_,_=>False
  |_,_=>False
 |none=>False
def J1 (aQ:df) (T:Nat) (x:aN) (k:aN->fk->Prop):Prop:=match aQ.find T,x with
 |some ti,.c (.one (.d (.b' v xs)))=>match ti.kd with
  | .arr n _=>(0 < n/\n<=List.length xs)/\k (.c (.one (.el (.arr n v) (List.take n xs) 0))) bC
  |_=>False
 |_,_=>False
def bx (P:aI0) (N:Nat) (ids:aH4) (o:Oper) (K:aW) (B:ay) (v:aN) (e:fk):Prop:=
 ∀(K':aW) (B':ay),(∀x,x∈o.op.operands->a1 K' x=a1 K x)->(∀c,c∈e.jo->ae B' c=ae B c)->(∀c,c∈e.ba->g7 ids K' B' c=true)->
  ∀(C:fc) (a:Act) (w:aH9),e2 N ids C K' B' a w->(∀d,o.dst=some d->d < N)-> ∀(fN:Act->World->Prop) (Q:Exit->Act->World->Prop),
   (∀a' w',e2 N ids C (mT o.dst v K') (hk e.iB B') a' w'->fN a' w')->o.wp P a w fN Q
def laid (xs:aH3) (off n:Nat) (ys:aH3):aH3:=xs.take off++ys.take n++xs.drop (off+(ys.take n).length)
def FG (c off n:Nat) (ys:aH3) (B:ay) (k:aN->fk->Prop):Prop:=match ae B c with
 |some (.row e .u8 xs)=>off+n<=xs.length/\k (.c (.one .any)) ⟨[c],[],[(c,some (.row e .u8 (laid xs off n ys)))]⟩
 |_=>False
def J2 (aQ:df) (T:Nat) (x y:aN) (B:ay) (k:aN->fk->Prop):Prop:=match elemOf aQ T with
 |some (e,_)=>match pE aQ e,y with
  |true,.c (.one (.d (.b' .u8 ys)))=>match x with
   | .c (.one (.own c))=>match ae B c with
    |some (.row _ .u8 xs)=>FG c 0 (List.length xs) ys B k
    |_=>False
   | .c (.one (.os c s off n))=>match Nat.beq s 1 with
    |true=>FG c off n ys B k
    |false=>False
   |_=>False
  |_,_=>False
 |none=>False
def ZI:aN->Bool
 | .c (.one (.own _))=>true
 |_=>false
def CJ (P:aI0) (ids:aH4) (o:Oper) (K:aW) (B:ay) (k:aN->fk->Prop):Prop:=
 ∃v e,(∀N,bx P N ids o K B v e)/\sG ids K B e.ba=true/\oY v fun v=>k v e
def J3 (P:aI0) (aQ:df) (ids:aH4) (o:Oper) (K:aW) (B:ay) (k:aN->fk->Prop):Prop:=match o.op with
 | .move x=>oY (a1 K x) fun v=>k v bC
 | .assign x=>oY (a1 K x) fun v=>k v bC
 | .pick c x y=>match a1 K c with
  | .c (.one (.d (.lit true)))=>oY (a1 K x) fun v=>k v bC
  | .c (.one (.d (.lit false)))=>oY (a1 K y) fun v=>k v bC
  |_=>False
 | .binOp op T x y _=>match op,JO aQ T with
  | .eql,true=>FB aQ T .eql (a1 K x) (a1 K y) k
  | .neq,true=>FB aQ T .neq (a1 K x) (a1 K y) k
  |op,false=>match a1 K x with
   | .c (.one (.ptr _ _))=>False
   | .c (.one (.bK _))=>False
   | .c (.one (.d (.bool a)))=>match FC aQ T with
    |true=>FD op a (a1 K y) k
    |false=>False
   | .c (.one (.d (.lit a)))=>match FC aQ T with
    |true=>FD op a (a1 K y) k
    |false=>False
   |_=>Fz op (a1 K x) (a1 K y) k
  |_,_=>False
 | .unOp .not _ x=>match a1 K x with
  | .c (.one (.d (.lit true)))=>k (.c (.one (.d (.lit false)))) bC
  | .c (.one (.d (.lit false)))=>k (.c (.one (.d (.lit true)))) bC
  | .c (.one (.d (.bool b)))=>k (.c (.one (.d (.bool (!b))))) bC
  |_=>False
 | .extract x i=>match a1 K x with
  | .b4 l=>match l[i]? with
   |some v=>k (.c v) bC
   |none=>False
  |_=>False
 | .nilCheck x=>match a1 K x with
  | .c (.one (.ptr c o))=>k (.c (.one (.ptr c o))) bC
  | .c (.one (.el u y o))=>k (.c (.one (.el u y o))) bC
  | .c (.one (.ga c s i o))=>k (.c (.one (.ga c s i o))) bC
  |_=>False
 | .fieldAddr T x f=>match JP aQ T f with
  |some (d,_)=>match a1 K x with
   | .c (.one (.ptr c o))=>k (.c (.one (.ptr c (o+d)))) bC
   | .c (.one (.el u y o))=>k (.c (.one (.el u y (o+d)))) bC
   | .c (.one (.ga c s i o))=>k (.c (.one (.ga c s i (o+d)))) bC
   |_=>False
  |none=>False
 | .load T x=>match aQ.find T with
  |some ti=>match a1 K x with
   | .c (.one (.ptr c o))=>match ae B c with
    |some (.cells l)=>match ti.row with
     |true=>match Nat.ble (o+ti.size) l.length with
      |true=>pD ((l.drop o).take ti.size) fun l=>k (.c (.agg l)) ⟨[c],[],[]⟩
      |false=>False
     |false=>match l[o]? with
      |some s=>Ab s fun s=>k (.c (.one s)) ⟨[c],[],[]⟩
      |none=>False
    |_=>False
   | .c (.one (.el u y o))=>match ti.row with
    |true=>match Nat.ble (o+ti.size) (aR u) with
     |true=>pD (gw u y o ti.size) fun l=>k (.c (.agg l)) bC
     |false=>False
    |false=>match Nat.blt o (aR u) with
     |true=>Aa (fB u y o) fun x=>k (.c (.one (.d x))) bC
     |false=>False
   | .c (.one (.ga c s i o))=>match ae B c with
    |some (.row _ u xs)=>match Nat.beq s (aR u) with
     |true=> ∃y,eR xs i=some y/\match ti.row with
      |true=>match Nat.ble (o+ti.size) (aR u) with
       |true=>pD (gw u y o ti.size) fun l=>k (.c (.agg l)) ⟨[c],[],[]⟩
       |false=>False
      |false=>match Nat.blt o (aR u) with
       |true=>Aa (fB u y o) fun x=>k (.c (.one (.d x))) ⟨[c],[],[]⟩
       |false=>False
     |false=>False
    |_=>False
   |_=>False
  |none=>False
 | .store T x v=>match aQ.find T with
  |some ti=>match a1 K x with
   | .c (.one (.ptr c o))=>match ae B c with
    |some (.cells l)=>match wG (a1 K v) with
     |some cs=>match Nat.beq cs.length ti.size,Nat.ble (o+cs.length) l.length with
      |true,true=>pD (CH l o cs) fun l=>k .undef ⟨[c],[],[(c,some (.cells l))]⟩
      |_,_=>False
     |none=>False
    |_=>False
   | .c (.one (.ga c s i o))=>match ae B c with
    |some (.row e u xs)=>match Nat.beq (aR u) 1,Nat.beq s 1,Nat.beq o 0,Nat.beq ti.size 1,a1 K v with
     |true,true,true,true,.c (.one pF)=>match n4 u [pF] with
      |some (y,[],p)=>(u2 p/\i < xs.length)/\k .undef ⟨[c],[],[(c,some (.row e u (xs.set i y)))]⟩
      |_=>False
     |_,_,_,_,_=>False
    |_=>False
   |_=>False
  |none=>False
 | .alloc T=>match aQ.find T,o.dst with
  |some ti,some d=>g7 ids K B d=true/\k (.c (.one (.ptr d 0))) ⟨[],[d],[(d,some (.cells ti.zero))]⟩
  |_,_=>False
 | .box T x=>match aQ.find T,o.dst,wG (a1 K x) with
  |some ti,some d,some l=>match Nat.beq l.length ti.size with
   |true=>g7 ids K B d=true/\k (.c (.one (.ptr d 0))) ⟨[],[d],[(d,some (.cells l))]⟩
   |false=>False
  |_,_,_=>False
 | .build T bF=>match aQ.find T with
  |some ti=>match ti.kd,wH K (fun f=>ti.mU[f]?) bF.toList ti.zero with
   | .st,some l=>pD l fun l=>k (.c (.agg l)) bC
   |_,_=>False
  |none=>False
 | .buildSlice T 0 bF=>match bF.toList with
  | []=>match elemOf aQ T,o.dst with
   |some (e,te),some d=>match te.u with
    |some u=>g7 ids K B d=true/\k (.c (.one (.own d))) ⟨[],[d],[(d,some (.row e u []))]⟩
    |none=>False
   |_,_=>False
  |_=>False
 | .buildSlice T n bF=>match elemOf aQ T with
  |some (_,te)=>match te.u with
   |some u=>match Nat.ble (n*te.size) 1000,wH K (fun i=>some (i*te.size,te.size)) bF.toList (Fy n te.zero) with
    |true,some l=>match yd u n l with
     |some (xs,none)=>k (.c (.one (.d (.b' u xs)))) bC
     |some (xs,some p)=>p/\k (.c (.one (.d (.b' u xs)))) bC
     |none=>n=1/\ ∃y:aa u,(oV u y/\l=gw u y 0 (aR u))/\k (.c (.one (.d (.b' u [y])))) bC
    |_,_=>False
   |none=>False
  |none=>False
 | .indexAddr T x i=>match elemOf aQ T,a1 K i with
  |some (_,te),.c (.one (.d (.int .i64 n)))=>match a1 K x with
   | .c (.one (.d (.b' u xs)))=>match Nat.beq te.size (aR u) with
    |true=>0<=n/\ ∃y,eR xs n.toNat=some y/\k (.c (.one (.el u y 0))) bC
    |false=>False
   | .c (.one (.own c))=>match ae B c with
    |some (.row _ u xs)=>match Nat.beq te.size (aR u) with
     |true=>(0<=n/\n < xs.length)/\k (.c (.one (.ga c (aR u) n.toNat 0))) ⟨[c],[],[]⟩
     |false=>False
    |_=>False
   |_=>False
  |_,_=>False
 | .index T x i=>match yh aQ T,a1 K x,a1 K i with
  |true,.c (.one (.d (.str s))),.c (.one (.d (.int .i64 n)))=>0<=n/\ ∃y,eR s n.toNat=some y/\k (.c (.one (.d (.int .u8 (UInt8.toNat y:Int))))) bC
  |_,_,_=>False
 | .slice T x lo hi none=>match a1 K x with
  | .c (.one (.own c))=>match elemOf aQ T,ae B c with
   |some (_,te),some (.row _ u xs)=>match yj xs.length (lo.map (a1 K)) (hi.map (a1 K)),Nat.beq te.size (aR u) with
    |some (l,h,p),true=>p/\k (.c (.one (.os c (aR u) l (h - l)))) ⟨[c],[],[]⟩
    |_,_=>False
   |_,_=>False
  | .c (.one (.ptr c o))=>match lo,hi,Nat.beq o 0 with
   |none,none,true=>J0 aQ T c B k
   |_,_,_=>False
  |_=>JS aQ T (a1 K x) (lo.map (a1 K)) (hi.map (a1 K)) k
 | .sliceToArrayPointer T x=>J1 aQ T (a1 K x) k
 | .convert S T x=>JR aQ S T (a1 K x) B k
 | .lookup T x i ok=>JV aQ T (a1 K x) (a1 K i) ok B k
 | .mapUpdate T x i v=>JX aQ T (a1 K x) (a1 K i) (a1 K v) B k
 | .makeMap T none=>JZ aQ T o.dst ids K B k
 | .makeFunc (.func f) fs cs=>match fs.toList,yg (cs.toList.map (a1 K)) with
  | [],some l=>k (.c (.one (.c2 f l))) bC
  |_,_=>False
 | .makeSlice T x y=>match elemOf aQ T,a1 K x,a1 K y,o.dst with
  |some (e,te),.c (.one (.d (.int .i64 n))),.c (.one (.d (.int .i64 m))),some d=>match pE aQ e with
   |true=>(n=m/\0<=n/\n<=4294967296)/\g7 ids K B d=true/\k (.c (.one (.own d))) ⟨[],[d],[(d,some (.row e .u8 (List.replicate n.toNat (0:UInt8))))]⟩
   |false=>False
  |_,_,_,_=>False
 | .call c=>match c.callee,c.args.toList with
  | .value (.func f),xs=>ye P f (xs.map (a1 K)) ids K B k
  | .value (.tmp t),xs=>match dX K t with
   | .c (.one (.c2 f l))=>ye P f (xs.map (a1 K)++n' l) ids K B k
   | .c (.one (.d (.fn x)))=>ye P x.1 (xs.map (a1 K)++u3 x.2) ids K B k
   |_=>False
  | .builtin .len,[x]=>match c.argTypes.toList with
   | [T]=>match JQ aQ T B (a1 K x) with
    |some (n,jo)=>k (.c (.one (.d (.int .i64 (n:Int))))) ⟨jo,[],[]⟩
    |none=>False
   |_=>False
  | .builtin .delete,[x,y]=>match c.argTypes.toList with
   | [T,_]=>JY aQ T (a1 K x) (a1 K y) B k
   |_=>False
  | .builtin .min,[x,y]=>match a1 K x,a1 K y with
   | .c (.one (.d (.int .i64 a))),.c (.one (.d (.int .i64 b)))=>k (.c (.one (.d (.int .i64 (min a b))))) bC
   |_,_=>False
  | .builtin .max,[x,y]=>match a1 K x,a1 K y with
   | .c (.one (.d (.int .i64 a))),.c (.one (.d (.int .i64 b)))=>k (.c (.one (.d (.int .i64 (max a b))))) bC
   |_,_=>False
  | .builtin .copy,[x,y]=>match c.argTypes.toList with
   | [T,ew]=>match ZI (a1 K y) with
    |true=>CJ P ids o K B k
    |false=>J2 aQ T (a1 K x) (a1 K y) B k
   |_=>False
  | .builtin .append,[x,y]=>match c.argTypes.toList with
   | [T,ew]=>match Nat.beq T ew with
    |true=>JT aQ T (a1 K x) (a1 K y) o.dst ids K B k
    |false=>JU aQ T ew (a1 K x) (a1 K y) o.dst ids K B k
   |_=>False
  |_,_=>CJ P ids o K B k
 |_=>CJ P ids o K B k
def FH (K:aW) (B:ay) (x:aI2):Bool:=match a1 K x with
 | .c (.one (.mp c))=>match ae B c with
  |some (.az _)=>true
  |_=>false
 |_=>false
def FI:aN->Bool
 | .c (.one (.d (.aL _)))=>true
 | .c (.one (.bK _))=>true
 |_=>false
def Qe (K:aW) (B:ay) (x:aI2):Bool:=match a1 K x with
 | .c (.one (.ptr c _))=>match ae B c with
  |some (.val _ _)=>true
  |_=>false
 | .c (.one (.ga c _ _ _))=>match ae B c with
  |some (.val _ _)=>true
  |_=>false
 |_=>false
def ZJ (K:aW) (B:ay) (x:aI2):Bool:=match a1 K x with
 | .c (.one (.ga c _ _ _))=>match ae B c with
  |some (.row _ u _)=> !Nat.beq (aR u) 1
  |_=>false
 |_=>false
def J4 (K:aW) (B:ay) (x:aI2):Bool:=match a1 K x with
 | .c (.one (.own c))=>match ae B c with
  |some (.az _)=>true
  |_=>false
 | .c (.one (.os c _ _ _))=>match ae B c with
  |some (.az _)=>true
  |_=>false
 |_=>false
def Qf:aN->Bool
 | .c (.agg _)=>true
 | .c (.ko _ _)=>true
 |_=>false
def FJ (K:aW) (f:Nat):Bool:=match dX K (1000000+f) with
 | .undef=>true
 |_=>false
def ZK (aQ:df) (o:Oper) (K:aW) (B:ay):Bool:=match o.op with
 | .lookup _ x _ _=>FH K B x
 | .mapUpdate _ x _ _=>FH K B x
 | .indexAddr _ x _=>match a1 K x with
  | .c (.one (.ptr _ _))=>true
  |_=>false
 | .nilCheck x=>FI (a1 K x)
 | .fieldAddr _ x _=>FI (a1 K x)
 | .load _ x=>FI (a1 K x)||Qe K B x
 | .store _ x _=>FI (a1 K x)||Qe K B x||ZJ K B x
 | .binOp op _ x y _=>match op with
  | .and=>true
  |_=>match y with
   | .const .nilFunc=>true
   | .const .nilIface=>true
   |_=>Qf (a1 K x)||(match o.dst with
    |some d=>FJ K (2000000+d)
    |none=>false)
 | .index _ x _=>Qf (a1 K x)
 | .slice _ x _ _ _=>J4 K B x
 | .convert _ _ x=>J4 K B x||(match o.dst with
  |some d=>FJ K (2000000+d)
  |none=>false)
 | .makeSlice T _ _=>match elemOf aQ T with
  |some (e,_)=> !pE aQ e
  |none=>false
 | .build T _=>match aQ.find T with
  |some ti=>match ti.kd with
   | .arr _ _=>true
   |_=>false
  |none=>false
 | .buildSlice _ _ _=>match o.dst with
  |some d=>FJ K (1000000+d)
  |none=>false
 | .call c=>match c.callee,c.args.toList with
  | .builtin .delete,x::_=>FH K B x
  | .builtin .len,x::_=>FH K B x
  | .builtin .copy,x::_=>J4 K B x
  | .value (.func f),_=>FJ K f
  | .value (.tmp t),_=>match dX K t with
   | .c (.one (.bK _))=>true
   |_=>false
  |_,_=>false
 | .makeFunc _ fs _=>match fs.toList with
  | []=>false
  |_=>true
 |_=>false
def FK (P:aI0) (aQ:df) (ids:aH4) (o:Oper) (K:aW) (B:ay) (k:aN->fk->Prop):Prop:=match ZK aQ o K B with
 |true=>CJ P ids o K B k
 |false=>J3 P aQ ids o K B k
def CK (all:aJ0) (j:Nat):Option Nat:=match all[j]? with
 |some o=>o.dst
 |none=>none
def FL (i:Nat):List Oper->Bool
 | []=>false
 |o::l=>match o.guard with
  |some (j,_)=>match Nat.beq j i with
   |true=>true
   |false=>FL i l
  |none=>FL i l
def u4 (all:aJ0) (K:aW) (g:Option (Nat×Bool)):Option Bool:=match g with
 |none=>some true
 |some (j,want)=>match CK all j with
  |none=>none
  |some s=>match dX K s,want with
   | .c (.one (.d (.lit true))),true=>some true
   | .c (.one (.d (.lit true))),false=>some false
   | .c (.one (.d (.lit false))),true=>some false
   | .c (.one (.d (.lit false))),false=>some true
   | .undef,_=>some false
   |_,_=>none
structure lc where
 i:Nat
 v:aN
 e:fk
noncomputable def FM (P:aI0) (aQ:df) (ids:aH4) (all:aJ0) (o:Oper) (l:aJ0) (bk:Nat->aW->ay->List lc->Prop) (i:Nat) (K:aW) (B:ay) (gx:List lc):Prop:=
 match u4 all K o.guard with
 |none=>False
 |some false=>match o.dst with
  |some d=>bk (i+1) ((d,.undef)::K) B (⟨i,.undef,bC⟩::gx)
  |none=>bk (i+1) K B (⟨i,.undef,bC⟩::gx)
 |some true=>FK P aQ ids o K B fun v e=>match o.dst with
  |none=>yc e.iB B fun B=>bk (i+1) K B (⟨i,.undef,e⟩::gx)
  |some d=>match FL i l,v with
   |true,.c (.one (.d (.bool b)))=>
    yc e.iB B fun B=>(b=true->bk (i+1) ((d,.c (.one (.d (.lit true))))::K) B (⟨i,.c (.one (.d (.lit true))),e⟩::gx))/\
    (b=false->bk (i+1) ((d,.c (.one (.d (.lit false))))::K) B (⟨i,.c (.one (.d (.lit false))),e⟩::gx))
   |_,v=>yc e.iB B fun B=>bk (i+1) ((d,v)::K) B (⟨i,v,e⟩::gx)
noncomputable def tS (P:aI0) (aQ:df) (ids:aH4) (all:aJ0) (i:Nat) (l:aJ0) (K:aW) (B:ay) (gx:List lc) (k:aW->ay->List lc->Prop):Prop:=
 List.rec (motive:=fun _=>Nat->aW->ay->List lc->Prop) (fun _ K B gx=>k K B gx) (fun o l bk i K B gx=>FM P aQ ids all o l bk i K B gx) l i K B gx
def Qg {P:aI0} {aQ:df} {ids:aH4} {all:aJ0} {i:Nat} {o:Oper} {l:aJ0} {K:aW} {B:ay} {gx:List lc} {k:aW->ay->List lc->Prop}:
 tS P aQ ids all i (o::l) K B gx k=FM P aQ ids all o l (fun i K B gx=>tS P aQ ids all i l K B gx k) i K B gx:=rfl
inductive oa where
 |gF
 |ex (id:Nat)
 |ret
def oa.to:oa->Exit
 | .gF=>.normal
 | .ex id=>.exit id
 | .ret=>.ret
abbrev oZ (r:aI4):Fence:={fn:=fun _=>True,depth:=none,alive:=false,round:=r}
abbrev fc.at (C:fc) (ds:aH4):fc:={C with ds:=ds}
def tT (ids:aH4):Bool:=ids.contains 0
def bG (P:aI0) (N:Nat) (ids:aH4) (c:Code) (K:aW) (B:ay) (Q:oa->aW->ay->Prop):Prop:=
 ∀r:Option Nat,(tT ids=false->r=none)-> ∀(C:fc) (iE:Exit->Act->World->Prop),(∀e K' B' ds,(tT ids=true->ds=C.ds)->Q e K' B'-> ∀a w,e2 N ids (C.at ds) K' B' a w->iE e.to a w)-> ∀a w,e2 N ids C K B a w->c.wpIn (oZ r) 0 P iE a w
def FN (all:aJ0) (o:Oper):aH4:=(o.op.operands.toList.filterMap fun
 | .tmp t=>some t
 |_=>none)++(match o.guard with
 |some (j,_)=>(CK all j).toList
 |none=>[])
def qr (o:Oper):aH4:=(o.after.toList.filter fun e=>Region.binds .any e).map (·.on)
def Ag:List Oper->List aH4->List aH4
 | [],acc=>acc
 |o::l,acc=>Ag l (acc++[qr o++(qr o).flatMap fun d=>acc.getD d []])
def FO (e:fk):aH4:=e.iB.map (·.1)
def Ah (a b:aH4):Bool:=a.any fun x=>b.contains x
def Ai (c:Nat):List (Nat×Option a8)->Bool
 | []=>false
 |(d,none)::l=>Nat.beq d c||Ai c l
 |(d,some ch)::l=>Nat.beq d c||ch.has c||Ai c l
def named (n:lc) (c:Nat):Bool:=n.v.has c||Ai c n.e.iB
def apart (all:aJ0) (o p:Oper) (n m:lc):Bool:=
 !Ah o.dst.toList (FN all p++p.dst.toList)&& !Ah p.dst.toList (FN all o)&& !Ah (FO n.e) (m.e.jo++FO m.e)&& !Ah (FO m.e) n.e.jo&& !n.e.ba.any (named m)&& !m.e.ba.any (named n)
def u5 (all:aJ0) (an:List aH4):List (Oper×lc×Nat)->Bool
 | []=>true
 |(o,n,i)::l=>(l.all fun(p,m,j)=>(an.getD j []).contains i&& !m.e.ba.any (named n)||apart all o p n m)&&u5 all an l
def wJ (K:aW) (B:ay) (du:aJ0) (gx:List lc):Bool:=
 let es:=gx.reverse
 (du.zipIdx.all fun(o,i)=>(qr o).all fun d=>Nat.blt d i)&&(es.all fun n=>n.e.ba.all fun c=>u1 c K&&kQ c B)&&u5 du (Ag du []) ((du.zip es).zipIdx.map fun((o,n),i)=>(o,n,i))
abbrev CL:=oa->aW->ay->Prop
noncomputable def i9 (P:aI0) (aQ:df) (N:Nat) (ids:aH4) (stops:aH4) (c:Code):aW->ay->CL->Prop:=
 Code.rec (motive:=fun _=>aW->ay->CL->Prop)
  (fun K B Q=>Q .gF K B)
  (fun id du u6 K B Q=>match stops.contains id with
   |true=>bG P N ids (.region id du u6) K B Q
   |false=>match u6 with
    |false=>tS P aQ ids du.toList 0 du.toList K B [] fun K B _=>Q .gF K B
    |true=>tS P aQ ids du.toList 0 du.toList K B [] fun K' B' gx=>wJ K B du.toList gx=true/\Q .gF K' B')
  (fun _ _ u7 CM K B Q=>u7 K B fun e K B=>match e with
   | .gF=>CM K B Q
   | .ex i=>Q (.ex i) K B
   | .ret=>Q .ret K B)
  (fun c _ _ Qh Qi K B Q=>match a1 K c with
   | .c (.one (.d (.lit true)))=>Qh K B Q
   | .c (.one (.d (.lit false)))=>Qi K B Q
   | .c (.one (.d (.bool b)))=>(b=true->Qh K B Q)/\(b=false->Qi K B Q)
   |_=>False)
  (fun i _ CM K B Q=>CM K B fun e K B=>match e with
   | .ex j=>match Nat.beq j i with
    |true=>Q .gF K B
    |false=>Q (.ex j) K B
   | .gF=>Q .gF K B
   | .ret=>Q .ret K B)
  (fun b _ K B Q=>bG P N ids (.loop b) K B Q)
  (fun f bF x b _ _ K B Q=>bG P N ids (.rangeFunc f bF x b) K B Q)
  (fun i K B Q=>Q (.ex i) K B)
  (fun _ CM K B Q=>CM K B Q)
  (fun _ K B Q=>Q .gF K B)
  (fun _ _ _ _=>False)
  (fun K B Q=>Q .ret K B)
  (fun _ _ _ _=>False) c
section
variable {P:aI0} {aQ:df} {N:Nat} {ids stops:aH4} {K:aW} {B:ay} {Q:CL}
def ZL {id:Nat} {du:Array Oper} {u6:Bool}:i9 P aQ N ids stops (.region id du u6) K B Q=(match stops.contains id with
 |true=>bG P N ids (.region id du u6) K B Q
 |false=>match u6 with
  |false=>tS P aQ ids du.toList 0 du.toList K B [] fun K B _=>Q .gF K B
  |true=>tS P aQ ids du.toList 0 du.toList K B [] fun K' B' gx=>wJ K B du.toList gx=true/\Q .gF K' B'):=rfl
def ZM {a b:Code}:i9 P aQ N ids stops (.seq a b) K B Q=i9 P aQ N ids stops a K B fun e K B=>match e with
 | .gF=>i9 P aQ N ids stops b K B Q
 | .ex i=>Q (.ex i) K B
 | .ret=>Q .ret K B:=rfl
def ZN {c:aI2} {x y:Code}:i9 P aQ N ids stops (.cond c x y) K B Q=(match a1 K c with
 | .c (.one (.d (.lit true)))=>i9 P aQ N ids stops x K B Q
 | .c (.one (.d (.lit false)))=>i9 P aQ N ids stops y K B Q
 | .c (.one (.d (.bool b)))=>(b=true->i9 P aQ N ids stops x K B Q)/\(b=false->i9 P aQ N ids stops y K B Q)
 |_=>False):=rfl
def ZO {i:Nat} {b:Code}:i9 P aQ N ids stops (.block i b) K B Q=i9 P aQ N ids stops b K B fun e K B=>match e with
 | .ex j=>match Nat.beq j i with
  |true=>Q .gF K B
  |false=>Q (.ex j) K B
 | .gF=>Q .gF K B
 | .ret=>Q .ret K B:=rfl
def ZP {b:Code}:i9 P aQ N ids stops (.scope b) K B Q=i9 P aQ N ids stops b K B Q:=rfl
end
end
section
def tU:Option TypeDesc->P'->Bool
 |some (.int k),.int ec=>mo k ec
 |some .bool,.bool=>true
 |some .string,.str=>true
 |some (.pointer e),.ptr cc=>Nat.beq e cc
 |some (.slice e),.ci cc=>Nat.beq e cc
 |some (.struct _),.st=>true
 |some (.array n e),.arr sH cc=>Nat.beq n sH&&Nat.beq e cc
 |some (.map k e),.mp ec cc=>Nat.beq k ec&&Nat.beq e cc
 |some (.func _ _ _),.other=>true
 |some (.interface _),.other=>true
 |_,_=>false
def J5:Value->bA->Bool
 | .int k n,.d (.int ec sH)=>mo k ec&&decide (n=sH)
 | .bool b,.d (.lit d5)=>b == d5
 | .string s,.d (.str l)=>decide (s.data.toList=l)
 | .slice none 0 0,.dC=>true
 | .pointer none,.bK (.pointer none)=>true
 | .map none,.bK (.map none)=>true
 | .nilFunc,.bK .nilFunc=>true
 | .nilIface,.bK .nilIface=>true
 |_,_=>false
def tV:List Value->List bA->Bool
 | [],[]=>true
 |v::aE,s::l=>J5 v s&&tV aE l
 |_,_=>false
def rx (P:aI0):List Field->List (Nat×Nat)->Bool
 | [],[]=>true
 |f::fs,(d,n)::l=>Nat.beq f.offset d&&(match P.info? f.type with
  |some i=>Nat.beq i.size n
  |none=>false)&& !Nat.beq n 0&&rx P fs l
 |_,_=>false
def Qj:Value->Bool->Bool
 | .agg _,false=>false
 |_,_=>true
def J6 (P:aI0) (T:Nat) (ti:b8):Bool:=match P.info? T,P.underlying T with
 |some i,some d=>Nat.beq i.size ti.size&&Nat.beq i.bytes ti.bytes&&(d.isRow == ti.row)&&tU (some d) ti.kd&&(match i.zero with
  |some aH=>tV aH.cells.toList ti.zero&&Qj aH d.isRow
  |none=>false)&&(match d with
  | .struct fs=>rx P fs.toList ti.mU
  |_=>true)&&Nat.ble ti.bytes 32768&&(match ti.u with
  |some u=>Nat.beq (aR u) ti.size
  |none=>true)&& !Nat.beq ti.size 0&&Nat.beq ti.zero.length ti.size
 |_,_=>false
def df.all (p:Nat->b8->Bool):df->Bool
 | .leaf=>true
 | .node l k x r=>l.all p&&p k x&&r.all p
def df.J7 {p:Nat->b8->Bool}: ∀(t:df),t.all p=true-> ∀T ti,t.find T=some ti->p T ti=true
 | .leaf,_,T,ti,h=>by simp[df.find] at h
 | .node l k x r,ha,T,ti,h=>by
  simp only[df.all,as8] at ha;unfold df.find at h
  split at h
  .exact df.J7 l ha.1.1 T ti h
  .split at h
   .rename_i e;have:=at8 e;injection h with h
    subst this h;exact ha.1.2
   .exact df.J7 r ha.2 T ti h
def d6 (P:aI0) (aQ:df):Prop:= ∀T ti,aQ.find T=some ti->J6 P T ti=true
def d6.of {P:aI0} {aQ:df} (h:aQ.all (J6 P)=true):d6 P aQ:=df.J7 aQ h
def ob {i j:IntKind} (h:mo i j=true):i=j:=by cases i <;>cases j <;>first |rfl |(simp[mo] at h)
structure mq (P:aI0) (T:Nat) (ti:b8) (i:aJ3) (d:aJ4):Prop where
 jK:P.info? T=some i
 oc:P.underlying T=some d
 size:i.size=ti.size
 bytes:i.bytes=ti.bytes
 row:d.isRow=ti.row
 kd:tU (some d) ti.kd=true
 zero: ∃aH,i.zero=some aH/\tV aH.cells.toList ti.zero=true
 mU: ∀fs,d= .struct fs->rx P fs.toList ti.mU=true
 Qk:ti.bytes<=32768
 u: ∀u,ti.u=some u->aR u=ti.size
 pos:ti.size≠0
 J8:ti.zero.length=ti.size
 Ql: ∀aH,i.zero=some aH->d.isRow=false->aH.cells= #[aH]
def d6.at_ {P:aI0} {aQ:df} (h:d6 P aQ) {T:Nat} {ti:b8} (hf:aQ.find T=some ti): ∃i d,mq P T ti i d:=by
 have J:=h T ti hf;unfold J6 at J
 split at J
 .rename_i i d hi H;simp only[as8,av3,beq_iff_eq] at J;obtain⟨⟨⟨⟨⟨⟨⟨⟨⟨E,G⟩,ah⟩,aS⟩,bB⟩,ej⟩,hE⟩,h6⟩,wK⟩,CN⟩:=J;refine⟨i,d,hi,H,at8 E,at8 G,ah,aS,?_,?_,aA2 hE,?_,fun e=>by rw[e] at wK;simp at wK,at8 CN,?_⟩
  .split at bB
   .rename_i aH aM;exact⟨aH,aM,(as8 _ _▸bB).1⟩
   .cases bB
  .rintro fs rfl;exact ej
  .intro u aZ;rw[aZ] at h6;exact at8 h6
  .intro aH aM aj;rw[aM] at bB;simp only[as8] at bB;have bB:=bB.2;rw[aj] at bB
   cases aH <;>first |rfl |(simp[Qj] at bB)
 .cases J
def mq.ci {P:aI0} {T:Nat} {ti:b8} {i:aJ3} {d:aJ4} (h:mq P T ti i d) {e:Nat} (Z:ti.kd= .ci e):P.underlying T=some (.slice e):=by
 have:=h.kd;rw[Z] at this;rw[h.oc]
 cases d <;>simp[tU] at this⊢
 exact this
def mq.str {P:aI0} {T:Nat} {ti:b8} {i:aJ3} {d:aJ4} (h:mq P T ti i d) (Z:ti.kd= .str):P.underlying T=some .string:=by
 have:=h.kd;rw[Z] at this;rw[h.oc]
 cases d <;>simp[tU] at this⊢
def mq.int {P:aI0} {T:Nat} {ti:b8} {i:aJ3} {d:aJ4} (h:mq P T ti i d) {k:IntKind} (Z:ti.kd= .int k):P.underlying T=some (.int k):=by
 have:=h.kd;rw[Z] at this;rw[h.oc]
 cases d <;>simp[tU] at this⊢
 exact ob this
def mq.ptr {P:aI0} {T:Nat} {ti:b8} {i:aJ3} {d:aJ4} (h:mq P T ti i d) {e:Nat} (Z:ti.kd= .ptr e):P.underlying T=some (.pointer e):=by
 have:=h.kd;rw[Z] at this;rw[h.oc]
 cases d <;>simp[tU] at this⊢
 exact this
def mq.st {P:aI0} {T:Nat} {ti:b8} {i:aJ3} {d:aJ4} (h:mq P T ti i d) (Z:ti.kd= .st): ∃fs,P.underlying T=some (.struct fs)/\d= .struct fs:=by
 have:=h.kd;rw[Z] at this;rw[h.oc]
 cases d <;>simp[tU] at this⊢
def Qm {P:aI0}: ∀(fs:List Field) (l:aK0),rx P fs l=true-> ∀(f d n:Nat),l[f]? =some (d,n)-> ∃j6 i,fs[f]? =some j6/\j6.offset=d/\P.info? j6.type=some i/\i.size=n/\n≠0
 | [],[],_,f,d,n,h=>by simp at h
 |g::fs,(a,b)::l,ai,0,d,n,h=>by
  simp only[rx,as8,av3] at ai;simp only[au4,at5,az0] at h;obtain⟨rfl,rfl⟩:=h;obtain⟨⟨⟨E,G⟩,ah⟩,_⟩:=ai
  split at G
  .rename_i i hi;exact⟨g,i,rfl,at8 E,hi,at8 G,fun e=>by subst e;simp at ah⟩
  .cases G
 |g::fs,(a,b)::l,ai,f+1,d,n,h=>by
  simp only[rx,as8] at ai;simpa using Qm fs l ai.2 f d n aE6
 | [],_::_,ai,_,_,_,_=>by simp[rx] at ai
 |_::_,[],ai,_,_,_,_=>by simp[rx] at ai
section
variable {P:aI0} {aQ:df} {N:Nat} {ids:aH4} {o:Oper} {K:aW} {B:ay}
def bx.val {v:aN} {jo:aH4} (h: ∀(K':aW) (B':ay),(∀x,x∈o.op.operands->a1 K' x=a1 K x)->(∀c,c∈jo->ae B' c=ae B c)->
  ∀(C:fc) (ρ:Nat->bp) (F:Nat->Nat->Prop) (a:Act) (w:aH9),Mem ids C B' ρ F w->eo K' ρ (bZ C B' F w) a w-> ∃x,(execOp a.eval o).run P w= .ok (.value x) w/\cx ρ (bZ C B' F w) w v x):
  bx P N ids o K B v ⟨jo,[],[]⟩:=by
 rintro K' B' E G - C a w ⟨hn,H,ρ,F,ak,au⟩ bv fN Q cR;obtain⟨x,hx,aB⟩:=h K' B' E G C ρ F a w ak au;unfold Oper.wp;rw[hx,Oper.upon_value];exact cR _ _ ⟨kN.trans hn,kO.trans H,ρ,F,ak,au.kP (fun e U=>by rw[hn];exact bv e U) aB⟩
def bx.new {v:aN} {jo:aH4} (h: ∀(K':aW) (B':ay),(∀x,x∈o.op.operands->a1 K' x=a1 K x)->(∀c,c∈jo->ae B' c=ae B c)->
  ∀(C:fc) (ρ:Nat->bp) (F:Nat->Nat->Prop) (a:Act) (w:aH9),Mem ids C B' ρ F w->eo K' ρ (bZ C B' F w) a w-> ∃x w',(execOp a.eval o).run P w= .ok (.value x) w'/\Below w.heap.size w w'/\
   (∀I:Nat->Prop,cm (bZ C B' F w) w I w'->(∀b,w.heap.size<=b->b < w'.heap.size->I b)->cx ρ I w' v x)):
  bx P N ids o K B v ⟨jo,[],[]⟩:=by
 rintro K' B' E G - C a w ⟨hn,H,ρ,F,ak,au⟩ bv fN Q cR;obtain⟨x,w',hx,O,aB⟩:=h K' B' E G C ρ F a w ak au;obtain⟨bH,U⟩:=ak.below O;unfold Oper.wp;rw[hx,Oper.upon_value];refine cR _ _ ⟨kN.trans hn,kO.trans H,ρ,F,bH,(au.mono U fun _ _ _=>rfl).kP (fun e U=>by rw[hn];exact bv e U) (aB _ U fun b E G=>⟨G,?_,fun c ch J bg=>?_⟩)⟩
 .exact .inr (.inr (ak.fresh E))
 .have:=(ak.own c ch J b bg).1;omega
section
variable {K':aW} {ρ:Nat->bp} {I:Nat->Prop} {a:Act} {w:aH9} {x:aI2}
def eo.ev (au:eo K' ρ I a w) {s:aN} (h:a1 K' x=s):cx ρ I w s (a.eval x):=h▸au.get x
def eo.int (au:eo K' ρ I a w) {k:IntKind} {n:Int} (h:a1 K' x= .c (.one (.d (.int k n)))):a.eval x= .int k n:=au.ev h
def eo.lit (au:eo K' ρ I a w) {b:Bool} (h:a1 K' x= .c (.one (.d (.lit b)))):a.eval x= .bool b:=au.ev h
def eo.bool (au:eo K' ρ I a w) {b:Bool} (h:a1 K' x= .c (.one (.d (.bool b)))):a.eval x= .bool b:=au.ev h
def eo.str (au:eo K' ρ I a w) {s:aH3} (h:a1 K' x= .c (.one (.d (.str s)))):a.eval x= .string ⟨s.toArray⟩:=au.ev h
def eo.ptr (au:eo K' ρ I a w) {c o:Nat} (h:a1 K' x= .c (.one (.ptr c o))):a.eval x= .pointer (some ⟨(ρ c).bf,o,none⟩):=au.ev h
def eo.ga (au:eo K' ρ I a w) {c s i o:Nat} (h:a1 K' x= .c (.one (.ga c s i o))):a.eval x= .pointer (some ⟨(ρ c).bf,i*s+o,none⟩):=au.ev h
def eo.os (au:eo K' ρ I a w) {c s o n:Nat} (h:a1 K' x= .c (.one (.os c s o n))):a.eval x= .slice (if(ρ c).cap=o then(ρ c).A else(ρ c).A.map (·.add (o*s))) n ((ρ c).cap - o):=au.ev h
def eo.bK (au:eo K' ρ I a w) {v:aI8} (h:a1 K' x= .c (.one (.bK v))):a.eval x=v:=au.ev h
def eo.own (au:eo K' ρ I a w) {c:Nat} (h:a1 K' x= .c (.one (.own c))):a.eval x=(ρ c).eS:=au.ev h
def eo.dC (au:eo K' ρ I a w) (h:a1 K' x= .c (.one .dC)):a.eval x= .slice none 0 0:=au.ev h
def eo.b' (au:eo K' ρ I a w) {u:bz} {xs:List (aa u)} (h:a1 K' x= .c (.one (.d (.b' u xs)))):cy I w (.ci u) xs (fun _=>some (a.eval x)):=au.ev h
end
def Aj {k:IntKind} {n:Int} (h:wI k n):k.wrap n=n:=by cases k <;>simp only[wI] at h <;>simp[IntKind.wrap,IntKind.bits,IntKind.signed] <;>omega
def Ak {x y:aI2} {op:BinOp} {T gc:aI3}:x∈(Op.binOp op T x y gc).operands/\y∈(Op.binOp op T x y gc).operands:=by simp[Op.operands]
def toList_mk (l:aH3):(⟨l.toArray⟩:aJ7).toList=l:=by rw[ByteArray.toList_eq]
def u9 (l:aH3):(⟨l.toArray⟩:aJ7).size=l.length:=by simp[ByteArray.size]
def J9 {op:BinOp} {T gc:aI3} {x y:aI2} {a:Act} {w:aH9} {k:IntKind} {n m r:Int} (ai:o.op= .binOp op T x y gc) (E:a.eval x= .int k n) (G:a.eval y= .int k m)
  (h:(op= .add/\r=n+m)\/(op= .sub/\r=n - m)\/(op= .mul/\r=n*m)) (aj:wI k r):(execOp a.eval o).run P w= .ok (.value (.int k r)) w:=by
 simp only[execOp,ai,E,G];rcases h with⟨rfl,rfl⟩ |⟨rfl,rfl⟩ |⟨rfl,rfl⟩ <;>simp[eqGuard,go_sem,Aj aj,Op.intArith]
def Qn {op:BinOp} {T gc:aI3} {x y:aI2} {a:Act} {w:aH9} {k:IntKind} {n m r:Int} (ai:o.op= .binOp op T x y gc) (E:a.eval x= .int k n) (G:a.eval y= .int k m)
  (hn:0<=n) (aC:0 < m) (h:(op= .quo/\r=n/m)\/(op= .rem/\r=n % m)) (aj:wI k r):(execOp a.eval o).run P w= .ok (.value (.int k r)) w:=by
 have CO:m≠0:=aE5
 simp only[execOp,ai,E,G];rcases h with⟨rfl,rfl⟩ |⟨rfl,rfl⟩
 .have e:n.tdiv m=n/m:=Int.tdiv_eq_ediv_of_nonneg hn;simp[eqGuard,go_sem,Op.intDiv,CO,e,Aj aj]
 .have e:n.tmod m=n % m:=Int.tmod_eq_emod_of_nonneg hn;simp[eqGuard,go_sem,Op.intDiv,CO,e]
def Al {op:BinOp} {T gc:aI3} {x y:aI2} {a:Act} {w:aH9} {k:IntKind} {n m:Int} {b:Bool} (ai:o.op= .binOp op T x y gc) (E:a.eval x= .int k n) (G:a.eval y= .int k m)
  (h:(op= .eql/\b=decide (n=m))\/(op= .neq/\b= !decide (n=m))\/(op= .lss/\b=decide (n < m))\/(op= .leq/\b=decide (n<=m))\/(op= .gtr/\b=decide (m < n))\/(op= .geq/\b=decide (m<=n))):
  (execOp a.eval o).run P w= .ok (.value (.bool b)) w:=by
 simp only[execOp,ai,E,G];rcases h with⟨rfl,rfl⟩ |⟨rfl,rfl⟩ |⟨rfl,rfl⟩ |⟨rfl,rfl⟩ |⟨rfl,rfl⟩ |⟨rfl,rfl⟩
 all_goals
  simp[eqGuard,go_sem,Op.intCmp]
 all_goals
  by_cases e:n=m <;>simp[e]
def Qo {op:BinOp} {T gc:aI3} {x y:aI2} {a:Act} {w:aH9} {k cY:IntKind} {n m r:Int} (ai:o.op= .binOp op T x y gc) (E:a.eval x= .int k n) (G:a.eval y= .int cY m)
  (hn:0<=n) (aC:0<=m) (O:m.toNat<=k.bits) (h:(op= .shl/\r=n*(2 ^m.toNat:Nat))\/(op= .shr/\r=n/(2 ^m.toNat:Nat))) (aj:op= .shl->wI k r):(execOp a.eval o).run P w= .ok (.value (.int k r)) w:=by
 have CO: ¬m < 0:=aE5
 have bC:min m.toNat k.bits=m.toNat:=aE5
 simp only[execOp,ai,E,G];rcases h with⟨rfl,rfl⟩ |⟨rfl,rfl⟩
 .have e:=Aj (aj rfl);simp only[Int.natCast_pow,Int.cast_ofNat_Int] at e⊢
  have aw:Op.shift .shl k n cY m=pure (.int k (n*2 ^m.toNat)):=by
   unfold Op.shift;rw[mu CO,bC];simp only;rw[e]
  simp only[eqGuard,binOp,aw];simp[go_sem]
 .have e:n.fdiv (2 ^m.toNat)=n/(2 ^m.toNat):=by rw[Int.fdiv_eq_ediv_of_nonneg];exact Int.pow_nonneg aD8
  simp only[Int.natCast_pow,Int.cast_ofNat_Int]
  have aw:Op.shift .shr k n cY m=pure (.int k (n/2 ^m.toNat)):=by
   unfold Op.shift;rw[mu CO,bC];simp only;rw[e]
  simp only[eqGuard,binOp,aw];simp[go_sem]
def Am {op:BinOp} {T gc:aI3} {x y:aI2} {a:Act} {w:aH9} {s t:aH3} {b:Bool} (ai:o.op= .binOp op T x y gc) (E:a.eval x= .string ⟨s.toArray⟩) (G:a.eval y= .string ⟨t.toArray⟩)
  (h:(op= .eql/\b=decide (s=t))\/(op= .neq/\b= !decide (s=t))\/(op= .lss/\b=Op.bytesLess s t)\/(op= .leq/\b=(Op.bytesLess s t||decide (s=t)))\/(op= .gtr/\b= !(Op.bytesLess s t||decide (s=t)))\/(op= .geq/\b= !Op.bytesLess s t)):
  (execOp a.eval o).run P w= .ok (.value (.bool b)) w:=by
 have e:(s == t)=decide (s=t):=by by_cases e:s=t <;>simp[e]
 simp only[execOp,ai,E,G];rcases h with⟨rfl,rfl⟩ |⟨rfl,rfl⟩ |⟨rfl,rfl⟩ |⟨rfl,rfl⟩ |⟨rfl,rfl⟩ |⟨rfl,rfl⟩ <;>simp[eqGuard,go_sem,Op.stringOp,toList_mk,e]
def ZQ (s t:aH3):(⟨s.toArray⟩:aJ7)++⟨t.toArray⟩=⟨(s++t).toArray⟩:=by
 have:((⟨s.toArray⟩:aJ7)++⟨t.toArray⟩).data=(s++t).toArray:=by
  simp[ByteArray.data_append]
 cases h:(⟨s.toArray⟩:aJ7)++⟨t.toArray⟩
 rw[h] at this;simp only at this;rw[this]
def ZR {T gc:aI3} {x y:aI2} {a:Act} {w:aH9} {s t:aH3} (ai:o.op= .binOp .add T x y gc) (E:a.eval x= .string ⟨s.toArray⟩) (G:a.eval y= .string ⟨t.toArray⟩)
  (h:s.length+t.length<=4294967296):(execOp a.eval o).run P w= .ok (.value (.string ⟨(s++t).toArray⟩)) w:=by
 simp only[execOp,ai,E,G]
 have hn: ¬(((s.length+t.length:Nat):Int) >IntKind.i64.max):=by
  have:IntKind.i64.max=9223372036854775807:=by decide
  omega
 simp only[eqGuard,binOp,Op.stringOp,u9,ZQ];rw[mu hn];simp[go_sem]
end
end
section
section
variable {P:aI0} {aQ:df} {N:Nat} {ids:aH4} {o:Oper} {K:aW} {B:ay} {k:aN->fk->Prop}
def bx.one {x:aI2} {CP v:aN} (hx:a1 K x=CP) (aC:x∈o.op.operands)
  (h: ∀(K':aW) (ρ:Nat->bp) (I:Nat->Prop) (a:Act) (w:World),eo K' ρ I a w->a1 K' x=CP-> ∃r,(execOp a.eval o).run P w= .ok (.value r) w/\cx ρ I w v r):bx P N ids o K B v bC:=
 bx.val fun K' B' E G C ρ F a w ak au=>h K' ρ _ a w au ((E x aC).trans hx)
def bx.two {x y:aI2} {CP Qp v:aN} (hx:a1 K x=CP) (aD:a1 K y=Qp) (aC:x∈o.op.operands) (hn:y∈o.op.operands)
  (h: ∀(K':aW) (ρ:Nat->bp) (I:Nat->Prop) (a:Act) (w:World),eo K' ρ I a w->a1 K' x=CP->a1 K' y=Qp-> ∃r,(execOp a.eval o).run P w= .ok (.value r) w/\cx ρ I w v r):bx P N ids o K B v bC:=
 bx.val fun K' B' E G C ρ F a w ak au=>h K' ρ _ a w au ((E x aC).trans hx) ((E y hn).trans aD)
def ZS {a b:Int} (E:0<=a) (G:a<=9223372036854775807) (ah:0<=b) (aS:b<=9223372036854775807):
  IntKind.i64.wrap (((BitVec.ofInt 64 a ||| BitVec.ofInt 64 b).toNat:Nat):Int)=((a.toNat ||| b.toNat:Nat):Int):=by
 have af:(BitVec.ofInt 64 a).toNat=a.toNat:=by rw[BitVec.toNat_ofInt];omega
 have ao:(BitVec.ofInt 64 b).toNat=b.toNat:=by rw[BitVec.toNat_ofInt];omega
 rw[BitVec.toNat_or,af,ao];have h:a.toNat ||| b.toNat < 2 ^63:=Nat.or_lt_two_pow aD7 aD7;exact Aj (by simp only[wI];omega)
def Qq {op:BinOp} {T gc:aI3} {x y:aI2} (ai:o.op= .binOp op T x y gc)
  (ag:(∃e,P.underlying T=some (.pointer e))\/ ∀c d,a1 K x≠ .c (.one (.ptr c d))/\a1 K x≠ .c (.one (.bK (.pointer none))))
  (h:Fz op (a1 K x) (a1 K y) k): ∃v,k v bC/\bx P N ids o K B v bC:=by
 have m1:x∈o.op.operands:=by rw[ai];exact Ak.1
 have m2:y∈o.op.operands:=by rw[ai];exact Ak.2
 unfold Fz at h
 split at h
 .rename_i i a j b hx aD
  have two: ∀(v:aN) (aB:i=j-> ∀(K':aW) (ρ:Nat->bp) (I:Nat->Prop) (fq:Act) (w:World),fq.eval x= .int i a->fq.eval y= .int i b-> ∃r,(execOp fq.eval o).run P w= .ok (.value r) w/\cx ρ I w v r),mo i j=true->bx P N ids o K B v bC:=fun v aB gO=>
   bx.two hx aD m1 m2 fun K' ρ I fq w au af ao=>aB (ob gO) K' ρ I fq w (au.int af) (by rw[ob gO];exact au.int ao)
  have Qr: ∀(v:aN) (aB: ∀(K':aW) (ρ:Nat->bp) (I:Nat->Prop) (fq:Act) (w:World),fq.eval x= .int i a->fq.eval y= .int j b-> ∃r,(execOp fq.eval o).run P w= .ok (.value r) w/\cx ρ I w v r),bx P N ids o K B v bC:=fun v aB=>
   bx.two hx aD m1 m2 fun K' ρ I fq w au af ao=>aB K' ρ I fq w (au.int af) (au.int ao)
  split at h
  .rename_i gO;have h:=yf h;exact⟨_,h.2,two _ (fun _ K' ρ I fq w E G=>⟨_,J9 ai E G (.inl ⟨rfl,rfl⟩) h.1,rfl⟩) gO⟩
  .rename_i gO;have h:=yf h;exact⟨_,h.2,two _ (fun _ K' ρ I fq w E G=>⟨_,J9 ai E G (.inr (.inl ⟨rfl,rfl⟩)) h.1,rfl⟩) gO⟩
  .rename_i gO;have h:=yf h;exact⟨_,h.2,two _ (fun _ K' ρ I fq w E G=>⟨_,J9 ai E G (.inr (.inr ⟨rfl,rfl⟩)) h.1,rfl⟩) gO⟩
  .rename_i gO;have h':=yf h.2;exact⟨_,h'.2,two _ (fun _ K' ρ I fq w E G=>⟨_,Qn ai E G h.1.1 h.1.2 (.inl ⟨rfl,rfl⟩) h'.1,rfl⟩) gO⟩
  .rename_i gO;have h':=yf h.2;exact⟨_,h'.2,two _ (fun _ K' ρ I fq w E G=>⟨_,Qn ai E G h.1.1 h.1.2 (.inr ⟨rfl,rfl⟩) h'.1,rfl⟩) gO⟩
  .split at h
   .rename_i hi;have:=ob hi;subst this;have h':=yf h.2;exact⟨_,h'.2,Qr _ fun K' ρ I fq w E G=>⟨_,Qo ai E G h.1.1 h.1.2.1 (by simp[IntKind.bits];have:=h.1.2.2;omega) (.inl ⟨rfl,rfl⟩) (fun _=>h'.1),rfl⟩⟩
   .exact h.elim
  .split at h
   .rename_i hi;have:=ob hi;subst this;exact⟨_,h.2,Qr _ fun K' ρ I fq w E G=>⟨_,Qo ai E G h.1.1 h.1.2.1 (by simp[IntKind.bits];have:=h.1.2.2;omega) (.inr ⟨rfl,rfl⟩) (fun e=>by cases e),rfl⟩⟩
   .exact h.elim
  .rename_i gO
   split at h
   .rename_i hi;have:=ob hi;subst this;refine⟨_,h.2,two _ (fun V K' ρ I fq w E G=>⟨_,?_,rfl⟩) gO⟩;have e:=ZS h.1.1 h.1.2.1 h.1.2.2.1 h.1.2.2.2
    have aw:Op.intBits .or .i64 a b=pure (.int .i64 ((a.toNat ||| b.toNat:Nat):Int)):=by
     exact at2 (fun aH:Int=>(pure (Value.int .i64 aH):Sem Value)) e
    simp only[execOp,ai,E,G,eqGuard,binOp,aw];simp[go_sem]
   .exact h.elim
  .rename_i gO;exact⟨_,h,two _ (fun _ K' ρ I fq w E G=>⟨_,Al ai E G (.inl ⟨rfl,rfl⟩),rfl⟩) gO⟩
  .rename_i gO;exact⟨_,h,two _ (fun _ K' ρ I fq w E G=>⟨_,Al ai E G (.inr (.inl ⟨rfl,rfl⟩)),rfl⟩) gO⟩
  .rename_i gO;exact⟨_,h,two _ (fun _ K' ρ I fq w E G=>⟨_,Al ai E G (.inr (.inr (.inl ⟨rfl,rfl⟩))),rfl⟩) gO⟩
  .rename_i gO;exact⟨_,h,two _ (fun _ K' ρ I fq w E G=>⟨_,Al ai E G (.inr (.inr (.inr (.inl ⟨rfl,rfl⟩)))),rfl⟩) gO⟩
  .rename_i gO;exact⟨_,h,two _ (fun _ K' ρ I fq w E G=>⟨_,Al ai E G (.inr (.inr (.inr (.inr (.inl ⟨rfl,rfl⟩))))),rfl⟩) gO⟩
  .rename_i gO;exact⟨_,h,two _ (fun _ K' ρ I fq w E G=>⟨_,Al ai E G (.inr (.inr (.inr (.inr (.inr ⟨rfl,rfl⟩))))),rfl⟩) gO⟩
  .exact h.elim
 .rename_i s t hx aD
  have two: ∀(v:aN) (aB: ∀(K':aW) (ρ:Nat->bp) (I:Nat->Prop) (fq:Act) (w:World),fq.eval x= .string ⟨s.toArray⟩->fq.eval y= .string ⟨t.toArray⟩-> ∃r,(execOp fq.eval o).run P w= .ok (.value r) w/\cx ρ I w v r),bx P N ids o K B v bC:=fun v aB=>
   bx.two hx aD m1 m2 fun K' ρ I fq w au af ao=>aB K' ρ I fq w (au.str af) (au.str ao)
  split at h
  .exact⟨_,h.2,two _ fun K' ρ I fq w E G=>⟨_,ZR ai E G h.1,rfl⟩⟩
  .exact⟨_,h,two _ fun K' ρ I fq w E G=>⟨_,Am ai E G (.inl ⟨rfl,rfl⟩),rfl⟩⟩
  .exact⟨_,h,two _ fun K' ρ I fq w E G=>⟨_,Am ai E G (.inr (.inl ⟨rfl,rfl⟩)),rfl⟩⟩
  .exact⟨_,h,two _ fun K' ρ I fq w E G=>⟨_,Am ai E G (.inr (.inr (.inl ⟨rfl,rfl⟩))),rfl⟩⟩
  .exact⟨_,h,two _ fun K' ρ I fq w E G=>⟨_,Am ai E G (.inr (.inr (.inr (.inl ⟨rfl,rfl⟩)))),rfl⟩⟩
  .exact⟨_,h,two _ fun K' ρ I fq w E G=>⟨_,Am ai E G (.inr (.inr (.inr (.inr (.inl ⟨rfl,rfl⟩))))),rfl⟩⟩
  .exact⟨_,h,two _ fun K' ρ I fq w E G=>⟨_,Am ai E G (.inr (.inr (.inr (.inr (.inr ⟨rfl,rfl⟩))))),rfl⟩⟩
  .exact h.elim
 .rename_i c d hx aD;obtain⟨e,aZ⟩:=ag.resolve_right fun h=>(h c d).1 hx
  have q: ∀(p:Addr) (w:aH9),(Op.equalIn (9999+1) T (.pointer (some p)) (.pointer none)).run P w= .ok false w:=fun p w=>by
   unfold Op.equalIn;simp[run_underlying aZ]
  split at h
  .refine⟨_,h,bx.two hx aD m1 m2 fun K' ρ I fq w au af ao=>⟨_,?_,rfl⟩⟩;simp only[execOp,ai,au.ptr af,au.bK ao];simp[eqGuard,binOp,Op.equal,Op.maxDepth,q]
  .refine⟨_,h,bx.two hx aD m1 m2 fun K' ρ I fq w au af ao=>⟨_,?_,rfl⟩⟩;simp only[execOp,ai,au.ptr af,au.bK ao];simp[eqGuard,binOp,Op.equal,Op.maxDepth,q]
  .exact h.elim
 .rename_i hx aD;obtain⟨e,aZ⟩:=ag.resolve_right fun h=>(h 0 0).2 hx
  have q: ∀(w:aH9),(Op.equalIn (9999+1) T (.pointer none) (.pointer none)).run P w= .ok true w:=fun w=>by
   unfold Op.equalIn;simp[run_underlying aZ]
  split at h
  .refine⟨_,h,bx.two hx aD m1 m2 fun K' ρ I fq w au af ao=>⟨_,?_,rfl⟩⟩;simp only[execOp,ai,au.bK af,au.bK ao];simp[eqGuard,binOp,Op.equal,Op.maxDepth,q]
  .refine⟨_,h,bx.two hx aD m1 m2 fun K' ρ I fq w au af ao=>⟨_,?_,rfl⟩⟩;simp only[execOp,ai,au.bK af,au.bK ao];simp[eqGuard,binOp,Op.equal,Op.maxDepth,q]
  .exact h.elim
 .exact h.elim
def Qs {op:BinOp} {T gc:aI3} {x y:aI2} (ai:o.op= .binOp op T x y gc) (bl: ∀T,Ae aQ T=true-> ∃e i,P.underlying T=some (.pointer e)/\P.info? e=some i/\i.size≠0)
  (ag: ∃e,P.underlying T=some (.pointer e)) (h:FB aQ T op (a1 K x) (a1 K y) k): ∃v,k v bC/\bx P N ids o K B v bC:=by
 have m1:x∈o.op.operands:=by rw[ai];exact Ak.1
 have m2:y∈o.op.operands:=by rw[ai];exact Ak.2
 unfold FB at h
 split at h
 .rename_i p hx;obtain⟨e,aZ⟩:=ag
  have key: ∀(b:Bool) (r:aI4),(∀(ρ:Nat->bp) (I:Nat->Prop) (w:aH9) (v:aI8),cx ρ I w (a1 K y) v->v= .pointer (n2 r))->(b=true->p=r/\(r=none\/Ae aQ T=true))->(b=false->(p=none/\r≠none)\/(p≠none/\r=none))->(op= .eql->bx P N ids o K B (.c (.one (.d (.lit b)))) bC)/\(op= .neq->bx P N ids o K B (.c (.one (.d (.lit !b)))) bC):=by
   intro b r aD E G
   have q: ∀(w:aH9),(Op.equalIn (9999+1) T (.pointer (n2 p)) (.pointer (n2 r))).run P w= .ok b w:=by
    intro w;unfold Op.equalIn
    cases b with
    |true=>
     obtain⟨rfl,ah⟩:=E rfl
     cases p with
     |none=>simp[run_underlying aZ,n2]
     |some p=>
      rcases ah with ah |ah
      .cases ah
      .obtain⟨cc,i,cl,cY,ek⟩:=bl T ah;rw[aZ] at cl;injection cl with cl
       injection cl with cl
       subst cl;simp[run_underlying aZ,n2,sizeOf,typeInfo,cY,ek,sameAddr]
    |false=>
     rcases G rfl with⟨rfl,ah⟩ |⟨ah,rfl⟩
     .cases r with
      |none=>exact at1 rfl ah
      |some r=>simp[run_underlying aZ,n2]
     .cases p with
      |none=>exact at1 rfl ah
      |some p=>simp[run_underlying aZ,n2]
   refine⟨fun af=>?_,fun af=>?_⟩
   .subst af;refine bx.val fun K' B' g1 g2 C ρ F a w ak au=>⟨.bool b,?_,rfl⟩
    have af:a.eval x= .pointer (n2 p):=au.ev ((g1 x m1).trans hx);have ao:a.eval y= .pointer (n2 r):=aD _ _ _ _ (au.ev (g1 y m2));simp only[execOp,ai,af,ao];simp[eqGuard,binOp,Op.equal,Op.maxDepth,q]
   .subst af;refine bx.val fun K' B' g1 g2 C ρ F a w ak au=>⟨.bool !b,?_,rfl⟩
    have af:a.eval x= .pointer (n2 p):=au.ev ((g1 x m1).trans hx);have ao:a.eval y= .pointer (n2 r):=aD _ _ _ _ (au.ev (g1 y m2));simp only[execOp,ai,af,ao];simp[eqGuard,binOp,Op.equal,Op.maxDepth,q]
  have two: ∀(f:Bool->Prop),FA aQ T p (a1 K y) f-> ∃b,f b/\(op= .eql->bx P N ids o K B (.c (.one (.d (.lit b)))) bC)/\(op= .neq->bx P N ids o K B (.c (.one (.d (.lit !b)))) bC):=by
   intro f h;unfold FA at h
   split at h
   .rename_i aD;have d': ∀(ρ:Nat->bp) (I:Nat->Prop) (w:aH9) (v:aI8),cx ρ I w (a1 K y) v->v= .pointer (n2 none):=fun ρ I w v aB=>by rw[aD] at aB;exact aB
    cases ag:p with
    |some b=>exact⟨_,h.1 b ag,by
      have:=key false none d' (fun e=>by cases e) (fun _=>.inr ⟨by simp[ag],rfl⟩);exact this⟩
    |none=>exact⟨_,h.2 ag,key true none d' (fun _=>⟨ag,.inl rfl⟩) (fun e=>by cases e)⟩
   .rename_i r aD;have d': ∀(ρ:Nat->bp) (I:Nat->Prop) (w:aH9) (v:aI8),cx ρ I w (a1 K y) v->v= .pointer (n2 r):=fun ρ I w v aB=>by rw[aD] at aB;exact aB
    split at h
    .have aY:Ae aQ T=true:=by assumption
     obtain⟨rfl,h⟩:=h;exact⟨_,h,key _ _ d' (fun _=>⟨rfl,.inr aY⟩) (fun e=>by cases e)⟩
    .exact h.elim
   .exact h.elim
  split at h
  .obtain⟨b,E,G,_⟩:=two _ h;exact⟨_,E,G rfl⟩
  .obtain⟨b,E,_,G⟩:=two _ h;exact⟨_,E,G rfl⟩
  .exact h.elim
 .exact Qq ai (.inl ag) h
def Qt {op:BinOp} {T gc:aI3} {x y:aI2} (ai:o.op= .binOp op T x y gc) (aZ:P.underlying T=some .bool) {a:Bool} (hx:a1 K x= .c (.one (.d (.bool a)))\/a1 K x= .c (.one (.d (.lit a))))
  (h:FD op a (a1 K y) k): ∃v,k v bC/\bx P N ids o K B v bC:=by
 have m1:x∈o.op.operands:=by rw[ai];exact Ak.1
 have m2:y∈o.op.operands:=by rw[ai];exact Ak.2
 have q: ∀(a b:Bool) (w:aH9),(Op.equalIn (9999+1) T (.bool a) (.bool b)).run P w= .ok (a == b) w:=fun a b w=>by
  unfold Op.equalIn;simp[run_underlying aZ]
 have key: ∀(b:Bool) (r:Bool),(a1 K y= .c (.one (.d (.bool b)))\/a1 K y= .c (.one (.d (.lit b))))->(op= .eql/\r=(a == b))\/(op= .neq/\r= !(a == b))->bx P N ids o K B (.c (.one (.d (.bool r)))) bC:=fun b r aD aj=>
  bx.val fun K' B' E G C ρ F fq w ak au=>by
   have ex:fq.eval x= .bool a:=by
    have:=au.get x;rw[E x m1] at this;rcases hx with hx |hx <;>(rw[hx] at this;exact this)
   have J':fq.eval y= .bool b:=by
    have:=au.get y;rw[E y m2] at this;rcases aD with aD |aD <;>(rw[aD] at this;exact this)
   refine⟨.bool r,?_,rfl⟩;rcases aj with⟨rfl,rfl⟩ |⟨rfl,rfl⟩ <;>(simp only[execOp,ai,ex,J'];simp[eqGuard,binOp,Op.equal,Op.maxDepth,q])
 unfold FD at h
 split at h
 .exact⟨_,h,key _ _ (.inl ‹_›) (.inl ⟨rfl,rfl⟩)⟩
 .exact⟨_,h,key _ _ (.inr ‹_›) (.inl ⟨rfl,rfl⟩)⟩
 .exact⟨_,h,key _ _ (.inl ‹_›) (.inr ⟨rfl,rfl⟩)⟩
 .exact⟨_,h,key _ _ (.inr ‹_›) (.inr ⟨rfl,rfl⟩)⟩
 .exact h.elim
end
end
section
section
variable {ρ:Nat->bp} {I:Nat->Prop} {w:aH9}
def cf.length: ∀(l:List bA) (aE:aH7),cf ρ I w l aE->aE.length=l.length
 | [],_,h=>by rw[show _=[] from h];rfl
 |s::l,_,⟨v,r,e,E,G⟩=>by rw[e,aw7,aw7,cf.length l r G]
def cf.get: ∀(l:List bA) (aE:aH7),cf ρ I w l aE-> ∀(i:Nat) (s:bA),l[i]? =some s-> ∃v,aE[i]? =some v/\dW ρ I w s v
 | [],_,h,i,s,aw=>by simp at aw
 |t::l,_,⟨v,r,e,E,G⟩,0,s,aw=>by
  simp only[au4,at5] at aw;subst aw e;exact⟨v,rfl,E⟩
 |t::l,_,⟨v,r,e,E,G⟩,i+1,s,aw=>by
  subst e;simpa using cf.get l r G i s (by simpa using aw)
def cf.u': ∀(l m:List bA) (aE us:aH7),cf ρ I w l aE->cf ρ I w m us->cf ρ I w (l++m) (aE++us)
 | [],m,_,us,h,h'=>by rw[show _=[] from h];exact h'
 |s::l,m,_,us,⟨v,r,e,E,G⟩,h'=>⟨v,r++us,by rw[e];rfl,E,cf.u' l m r us G h'⟩
def cf.FP: ∀(n:Nat) (l:List bA) (aE:aH7),cf ρ I w l aE->cf ρ I w (l.take n) (aE.take n)
 |0,_,_,_=>rfl
 |n+1,[],_,h=>by rw[show _=[] from h];rfl
 |n+1,s::l,_,⟨v,r,e,E,G⟩=>⟨v,r.take n,by rw[e];rfl,E,cf.FP n l r G⟩
def cf.ry: ∀(n:Nat) (l:List bA) (aE:aH7),cf ρ I w l aE->cf ρ I w (l.drop n) (aE.drop n)
 |0,_,_,h=>h
 |n+1,[],_,h=>by rw[show _=[] from h];rfl
 |n+1,s::l,_,⟨v,r,e,E,G⟩=>by rw[e];exact cf.ry n l r G
def cf.splice {l cs:List bA} {aE us:aH7} {o:Nat} (h:cf ρ I w l aE) (h':cf ρ I w cs us):cf ρ I w (CH l o cs) (aE.take o++us++aE.drop (o+us.length)):=by unfold CH;rw[cf.length cs us h'];exact cf.u' _ _ _ _ (cf.u' _ _ _ _ (cf.FP _ _ _ h) h') (cf.ry _ _ _ h)
def ok_one {s:bA} {v:aI8} (h:s.ok=true) (aB:dW ρ I w s v):v.oneCell'=true:=by
 cases s with
 |d x=>
  cases x with
  |b' u xs=>obtain⟨A,cap,e,_⟩:=aB;injection e with e;rw[e];rfl
  |da y=>rw[show v=rp y from aB];rcases y with _ |⟨b,n,c⟩ <;>rfl
  |fn y=>rw[show v=kK y from aB];rfl
  |_=>rw[show v=_ from aB];rfl
 |ptr c o=>rw[show v=_ from aB];rfl
 |own c=>rw[show v=_ from aB];rfl
 |el u x o=>obtain⟨b,p,e,_⟩:=aB;rw[e];rfl
 |ga c s i o=>rw[show v=_ from aB];rfl
 |os c s o n=>rw[show v=_ from aB];rfl
 |mp c=>rw[show v=_ from aB];rfl
 |c2 f l=>obtain⟨aE,e,_⟩:=aB;rw[e];rfl
 |dC=>rw[show v=_ from aB];rfl
 |bK u=>
  rw[show v=u from aB]
  cases u <;>first |rfl |(simp[bA.ok] at h)
 |any=>simp[bA.ok] at h
def Qu: ∀{l:List bA} {aE:aH7},Ft l=true->cf ρ I w l aE-> ∀u∈aE,u.oneCell'=true
 | [],_,_,aB,u,aZ=>by rw[show _=[] from aB] at aZ;cases aZ
 |s::l,_,h,⟨v,r,e,E,G⟩,u,aZ=>by
  simp only[Ft,as8] at h;subst e;rcases at7.1 aZ with rfl |aZ
  .exact ok_one h.1 E
  .exact Qu h.2 G u aZ
def Ka {pF:aN} {l:List bA} {v:aI8} (h:wG pF=some l) (aB:cx ρ I w pF v): ∃aE,v.cells=List.toArray aE/\cf ρ I w l aE/\ ∀u∈aE,u.oneCell'=true:=by
 unfold wG at h
 split at h
 .split at h
  .rename_i s aw;injection h with h
   subst h;have E:=ok_one aw aB;refine⟨[v],?_,⟨v,[],rfl,aB,rfl⟩,fun u aZ=>by simp at aZ;rw[aZ];exact E⟩
   cases v <;>first |rfl |(simp[Value.oneCell'] at E)
  .cases h
 .split at h
  .rename_i l' al;injection h with h
   subst h;obtain⟨aE,e,G⟩:=aB;exact⟨aE,by rw[e];rfl,G,Qu al G⟩
  .cases h
 .cases h
end
def dv {α:Type} (f:Nat->α) (c:Nat) (x:α):Nat->α:=fun d=>if d=c then x else f d
def dB {α:Type} (f:Nat->α) (c:Nat) (x:α):dv f c x c=x:=vj rfl
def dD {α:Type} (f:Nat->α) {c d:Nat} (x:α) (h:d≠c):dv f c x d=f d:=mu h
def Qv {c:Nat}: ∀{K:aW},u1 c K=true-> ∀s,(dX K s).has c=false
 | [],_,s=>rfl
 |(t,v)::K,h,s=>by
  simp only[u1,as8,av3] at h;rw[kM]
  split
  .exact h.1
  .exact Qv h.2 s
def va {c:Nat}: ∀{B:ay},kQ c B=true->ae B c=none/\ ∀d ch,ae B d=some ch->ch.has c=false
 | [],_=>⟨rfl,fun d ch h=>by cases h⟩
 |(t,v)::B,h=>by
  simp only[kQ,as8,av3] at h;obtain⟨E,G⟩:=va h.2;have a6:t≠c:=fun e=>by subst e;simp at h
  refine⟨by rw[co,mu a6];exact E,fun d ch H=>?_⟩;rw[co] at H
  split at H
  .injection H with H;subst H;exact h.1.2
  .exact G d ch H
def ld {ids:aH4} {K:aW} {B:ay} {c:Nat} (h:g7 ids K B c=true):(∀s,(dX K s).has c=false)/\ae B c=none/\(∀d ch,ae B d=some ch->ch.has c=false)/\c∉ids:=by simp only[g7,as8,av3] at h;obtain⟨G,ah⟩:=va h.1.2;exact⟨Qv h.1.1,G,ah,by simpa using h.2⟩
section
variable {P:aI0} {aQ:df} {N:Nat} {ids:aH4} {o:Oper} {K:aW} {B:ay} {C:fc} {ρ:Nat->bp} {F:Nat->Nat->Prop} {w w':aH9}
def Mem.make (h:Mem ids C B ρ F w) {c:Nat} {ch:a8} (hf:g7 ids K B c=true) (O:Below w.heap.size w w') (pl:bp) (cg:Nat->Prop) (l1: ∀b,cg b->w.heap.size<=b/\b < w'.heap.size)
  (c': ∀I,cm (bZ C B F w) w I w'->(∀b,I b->b < w'.heap.size/\ ¬cg b)->Holds (dv ρ c pl) I cg w' pl ch):
  Mem ids C ((c,ch)::B) (dv ρ c pl) (dv F c cg) w'/\cm (bZ C B F w) w (bZ C ((c,ch)::B) (dv F c cg) w') w':=by
 obtain⟨fU,gV,f3,f4⟩:=ld hf;refine h.step (fun d=>d=c) (fun d=>d=c) (cU.rj O) ?_ (fun d H=>dD _ _ H) (fun d H=>dD _ _ H) (fun d H e=>f4 (e▸H)) (fun _ h=>h) ?_ ?_ ?_ ?_
 .intro d ch' H a6;rw[co,mu (fun e=>a6 e.symm)] at H;exact H
 .rintro d ch' H _ e U rfl;rw[f3 d ch' H] at U
  cases U
 .rintro d ch' H rfl U;rw[co,vj rfl] at H;injection H with H
  subst H;rw[dB,dB];exact c' _ U fun b c8=>⟨c8.1,fun aV=>c8.2.2 d ch aF9 (by rw[dB];exact aV)⟩
 .rintro d ch' H rfl b aV;rw[dB] at aV;exact⟨(l1 b aV).2,.inr (l1 b aV).1⟩
 .rintro d cZ i' o0 b _ _ rfl rfl a6;exact at1 rfl a6
def Mem.hT (h:Mem ids C B ρ F w) {c:Nat} {cB ch:a8} (J:ae B c=some cB) (cF:cU (F c) w w')
  (c': ∀I,cm (bZ C B F w) w I w'->Holds ρ I (F c) w' (ρ c) ch):
  Mem ids C ((c,ch)::B) ρ F w'/\cm (bZ C B F w) w (bZ C ((c,ch)::B) F w') w':=by
 refine h.step (fun d=>d=c) (fun _=>False) (cF.mono fun b _ O=>⟨c,cB,J,rfl,O⟩) ?_ (fun _ _=>rfl) (fun _ _=>rfl) (fun _ _ h=>h) (fun _ h=>h.elim) (fun _ _ _ _ _ _ h=>h) ?_ ?_ ?_
 .intro d ch' H a6;rw[co,mu (fun e=>a6 e.symm)] at H;exact H
 .rintro d ch' H rfl U;rw[co,vj rfl] at H;injection H with H
  subst H;exact c' _ U
 .rintro d ch' H rfl b O;exact⟨au8 (h.own d cB J b O).1 cF.size,.inl ⟨d,cB,J,rfl,O⟩⟩
 .rintro d cZ i' o0 b _ _ rfl rfl a6;exact at1 rfl a6
def bx.make {c:Nat} {ch:a8} {v:aN} {jo:aH4} (aB: ∀d,v.has d=true->d=c)
  (h: ∀(K':aW) (B':ay),(∀x,x∈o.op.operands->a1 K' x=a1 K x)->(∀c,c∈jo->ae B' c=ae B c)-> ∀(C:fc) (ρ:Nat->bp) (F:Nat->Nat->Prop) (a:Act) (w:aH9),Mem ids C B' ρ F w->eo K' ρ (bZ C B' F w) a w->
   (∀s,(dX K' s).has c=false)-> ∃x w' pl cg,(execOp a.eval o).run P w= .ok (.value x) w'/\Below w.heap.size w w'/\(∀b,cg b->w.heap.size<=b/\b < w'.heap.size)/\
    (∀I,cm (bZ C B' F w) w I w'->(∀b,I b->b < w'.heap.size/\ ¬cg b)->Holds (dv ρ c pl) I cg w' pl ch/\cx (dv ρ c pl) I w' v x)):
  bx P N ids o K B v ⟨jo,[c],[(c,some ch)]⟩:=by
 rintro K' B' E G ah C a w ⟨hn,H,ρ,F,ak,au⟩ bv fN Q cR;have hf:=ah c aD9;have cF:=ld hf;obtain⟨x,w',pl,cg,hx,O,l1,c'⟩:=h K' B' E G C ρ F a w ak au cF.1;obtain⟨bH,U⟩:=ak.make hf O pl cg l1 fun I af ao=>(c' I af ao).1
 unfold Oper.wp;rw[hx,Oper.upon_value];refine cR _ _ ⟨kN.trans hn,kO.trans H,dv ρ c pl,dv F c cg,bH,(au.mono U fun s d H=>dD _ _ (fun e=>by subst e;rw[cF.1 s] at H;cases H)).kP (fun e U=>by rw[hn];exact bv e U) ?_⟩;exact(c' _ U fun b c8=>⟨c8.1,fun aV=>c8.2.2 c ch aF9 (by rw[dB];exact aV)⟩).2
def bx.hT {c:Nat} {cB ch:a8} (J:ae B c=some cB)
  (h: ∀(K':aW) (B':ay),(∀x,x∈o.op.operands->a1 K' x=a1 K x)-> ∀(C:fc) (ρ:Nat->bp) (F:Nat->Nat->Prop) (a:Act) (w:aH9),Mem ids C B' ρ F w->eo K' ρ (bZ C B' F w) a w->ae B' c=some cB-> ∃w',(execOp a.eval o).run P w= .ok .skip w'/\cU (F c) w w'/\
   (∀I,cm (bZ C B' F w) w I w'->Holds ρ I (F c) w' (ρ c) ch)):
  bx P N ids o K B .undef ⟨[c],[],[(c,some ch)]⟩:=by
 rintro K' B' E G - C a w ⟨hn,H,ρ,F,ak,au⟩ bv fN Q cR;have c3:ae B' c=some cB:=(G c aD9).trans J;obtain⟨w',hx,cF,c'⟩:=h K' B' E C ρ F a w ak au c3;obtain⟨bH,U⟩:=ak.hT c3 cF c';unfold Oper.wp;rw[hx,Oper.upon_skip];exact cR _ _ ⟨kN.trans hn,kO.trans H,ρ,F,bH,(au.mono U fun _ _ _=>rfl).kP (fun e U=>by rw[hn];exact bv e U) rfl⟩
def Qw {T:aI3} {p:Addr} {v:aI8} {d:aJ4} (aZ:P.underlying T=some d) (H:d.isRow=false) (J:w.cell? p=some v):(loadVar T p).run P w= .ok v w:=by cases d <;>first |(simp[TypeDesc.isRow] at H;done) |simp[loadVar,isAgg,run_underlying aZ,go_sem,J]
def FQ {ev:Operand->Value} {T:aI3} {x:aI2} {p:Addr} {v:aI8} {d:aJ4} (ai:o.op= .load T x) (E:ev x= .pointer (some p)) (aZ:P.underlying T=some d) (H:d.isRow=false) (J:w.cell? p=some v):(execOp ev o).run P w= .ok (.value v) w:=by unfold execOp;simp only[ai,E,Instr.loadAt,Instr.sureAddr,aw3,ax1,au6,Qw aZ H J]
def FR {ev:Operand->Value} {T:aI3} {x:aI2} {b p:Nat} {cs:aH7} {d:aJ4} {i:aJ3} (ai:o.op= .load T x) (E:ev x= .pointer (some ⟨b,p,none⟩)) (aZ:P.underlying T=some d) (H:d.isRow=true) (hi:P.info? T=some i) (al:i.size=cs.length)
  (J: ∀(j:Nat) (u:Value),cs[j]? =some u->w.cell? ⟨b,p+j,none⟩=some u):(execOp ev o).run P w= .ok (.value (.agg cs.toArray)) w:=by
 unfold execOp;simp only[ai,E,Instr.loadAt,Instr.sureAddr,aw3,ax1,au6,run_loadVar_mid w b p T cs d J aZ H (by rw[hi,az3,al])]
def o1 {b:Nat} {aE:aH7} {T:Nat} (h:w.heap[b]? =some (.cells (List.toArray aE) T (0,0))) {j:Nat} {v:aI8} (V:aE[j]? =some v):w.cell? ⟨b,j,none⟩=some v:=by simp[World.cell?,h,V]
def CQ {ev:Operand->Value} {T:aI3} {x y:aI2} {b p:Nat} {aE us:aH7} {bz:Nat} {i:aJ3} (ai:o.op= .store T x y) (E:ev x= .pointer (some ⟨b,p,none⟩)) (aD:(ev y).cells=List.toArray us) (hi:P.info? T=some i) (al:i.size=us.length)
  (O:w.heap[b]? =some (.cells (List.toArray aE) bz (0,0))) (jL:p+us.length<=aE.length) (vb: ∀u∈us,u.oneCell'=true):
  (execOp ev o).run P w= .ok .skip (w.setRow b (aE.take p++us++aE.drop (p+us.length)).toArray):=by
 have aw:=run_storeCells_at (P:=P) b p bz us 0 (List.toArray aE) w O (by simpa using jL) vb;simp only[aA0,List.toList_toArray] at aw;have aM:(ev y).cells.size=i.size:=by rw[aD,al];simp
 unfold execOp;simp[ai,E,Instr.storeAt,Instr.sureAddr,storeVar,sizeOf,typeInfo,hi,aD,al,aw]
end
end
section
section
variable {P:aI0} {aQ:df} {N:Nat} {ids:aH4} {o:Oper} {K:aW} {B:ay} {k:aN->fk->Prop}
def cM (P:aI0) (N:Nat) (ids:aH4) (o:Oper) (K:aW) (B:ay) (k:aN->fk->Prop):Prop:= ∃v e,k v e/\bx P N ids o K B v e/\ ∀c,c∈e.ba->g7 ids K B c=true
def cM.of {v:aN} {jo:aH4} {iB:List (Nat×Option a8)} (h:k v ⟨jo,[],iB⟩) (ax:bx P N ids o K B v ⟨jo,[],iB⟩):cM P N ids o K B k:=⟨_,_,h,ax,fun c J=>by cases J⟩
def cM.ba {v:aN} {jo:aH4} {d:Nat} {iB:List (Nat×Option a8)} (h:k v ⟨jo,[d],iB⟩) (hf:g7 ids K B d=true) (ax:bx P N ids o K B v ⟨jo,[d],iB⟩):cM P N ids o K B k:=⟨_,_,h,ax,fun c J=>by simp at J;rw[J];exact hf⟩
def Qx {x:aI2} (ai:o.op= .move x\/o.op= .assign x) (h:oY (a1 K x) fun v=>k v bC):cM P N ids o K B k:=by
 rw[sF] at h;refine cM.of h <| bx.one rfl (by rcases ai with ai |ai <;>rw[ai] <;>simp[Op.operands]) fun K' ρ I a w au e=>⟨_,?_,au.ev e⟩
 rcases ai with ai |ai <;>simp[execOp,ai]
def ZT {c x y:aI2} (ai:o.op= .pick c x y) (h:match a1 K c with
  | .c (.one (.d (.lit true)))=>oY (a1 K x) fun v=>k v bC
  | .c (.one (.d (.lit false)))=>oY (a1 K y) fun v=>k v bC
  |_=>False):cM P N ids o K B k:=by
 have m1:c∈o.op.operands:=aE4
 have m2:x∈o.op.operands:=aE4
 have m3:y∈o.op.operands:=aE4
 split at h
 .rename_i J;rw[sF] at h;exact cM.of h <| bx.two J rfl m1 m2 fun K' ρ I a w au af ao=>⟨_,by simp[execOp,ai,au.lit af,asBool],au.ev ao⟩
 .rename_i J;rw[sF] at h;exact cM.of h <| bx.two J rfl m1 m3 fun K' ρ I a w au af ao=>⟨_,by simp[execOp,ai,au.lit af,asBool],au.ev ao⟩
 .exact h.elim
def ZU {T:aI3} {x:aI2} (ai:o.op= .unOp .not T x) (h:match a1 K x with
  | .c (.one (.d (.lit true)))=>k (.c (.one (.d (.lit false)))) bC
  | .c (.one (.d (.lit false)))=>k (.c (.one (.d (.lit true)))) bC
  | .c (.one (.d (.bool b)))=>k (.c (.one (.d (.bool (!b))))) bC
  |_=>False):cM P N ids o K B k:=by
 have m1:x∈o.op.operands:=aE4
 split at h
 .rename_i J;exact cM.of h <| bx.one J m1 fun K' ρ I a w au af=>⟨_,by simp[execOp,ai,au.lit af,Op.unary],rfl⟩
 .rename_i J;exact cM.of h <| bx.one J m1 fun K' ρ I a w au af=>⟨_,by simp[execOp,ai,au.lit af,Op.unary],rfl⟩
 .rename_i b J;exact cM.of h <| bx.one J m1 fun K' ρ I a w au af=>⟨_,by simp[execOp,ai,au.bool af,Op.unary],rfl⟩
 .exact h.elim
def iL.get {ρ:Nat->bp} {I:Nat->Prop} {w:aH9}: ∀(l:List dQ) (aE:aH7),iL ρ I w l aE-> ∀(i:Nat) (s:dQ),l[i]? =some s-> ∃v,aE[i]? =some v/\gC ρ I w s v
 | [],_,h,i,s,aw=>by simp at aw
 |t::l,_,⟨v,r,e,E,G⟩,0,s,aw=>by
  simp only[au4,at5] at aw;subst aw e;exact⟨v,rfl,E⟩
 |t::l,_,⟨v,r,e,E,G⟩,i+1,s,aw=>by
  subst e;simpa using iL.get l r G i s (by simpa using aw)
def ZV {x:aI2} {i:Nat} (ai:o.op= .extract x i) (h:match a1 K x with
  | .b4 l=>match l[i]? with
   |some v=>k (.c v) bC
   |none=>False
  |_=>False):cM P N ids o K B k:=by
 have m1:x∈o.op.operands:=aE4
 split at h
 .rename_i l al
  split at h
  .rename_i v aB;refine cM.of h <| bx.one al m1 fun K' ρ I a w au af=>?_
   obtain⟨aE,e,G⟩:=au.ev af;obtain⟨u,aZ,ah⟩:=iL.get l aE G i v aB;exact⟨u,by simp[execOp,ai,e,Instr.extract,aZ],ah⟩
  .exact h.elim
 .exact h.elim
def ZW {x:aI2} (ai:o.op= .nilCheck x) (h:match a1 K x with
  | .c (.one (.ptr c o))=>k (.c (.one (.ptr c o))) bC
  | .c (.one (.el u y o))=>k (.c (.one (.el u y o))) bC
  | .c (.one (.ga c s i o))=>k (.c (.one (.ga c s i o))) bC
  |_=>False):cM P N ids o K B k:=by
 have m1:x∈o.op.operands:=aE4
 split at h
 .rename_i c p J;exact cM.of h <| bx.one J m1 fun K' ρ I a w au af=>⟨_,by simp[execOp,ai,au.ptr af],rfl⟩
 .rename_i u y p J;refine cM.of h <| bx.one J m1 fun K' ρ I a w au af=>⟨a.eval x,?_,au.ev af⟩
  obtain⟨b,q,e,_⟩:=au.ev af;simp[execOp,ai,e]
 .rename_i c s i p J;exact cM.of h <| bx.one J m1 fun K' ρ I a w au af=>⟨_,by simp[execOp,ai,au.ga af],rfl⟩
 .exact h.elim
def fSz {ev:Operand->Value} {T:aI3} {x:aI2} {f g off d:Nat} {w:aH9} {fs:Array Field} {j6:Field} {i:aJ3} (E:ev x= .pointer (some ⟨g,off,none⟩)) (ai:o.op= .fieldAddr T x f)
  (bR:P.underlying T=some (.struct fs)) (vc:fs[f]? =some j6) (H:j6.offset=d) (hi:P.info? j6.type=some i) (cA:i.size≠0):(execOp ev o).run P w= .ok (.value (.pointer (some ⟨g,off+d,none⟩))) w:=by
 subst H;simp[execOp,ai,E,Instr.fieldAt,run_underlying bR,vc,Instr.sureAddr,fieldPlace,sizeOf,typeInfo,hi,cA,qo]
def ZX (bl:d6 P aQ) {T:aI3} {x:aI2} {f:Nat} (ai:o.op= .fieldAddr T x f) (h:match JP aQ T f with
  |some (d,_)=>match a1 K x with
   | .c (.one (.ptr c o))=>k (.c (.one (.ptr c (o+d)))) bC
   | .c (.one (.el u y o))=>k (.c (.one (.el u y (o+d)))) bC
   | .c (.one (.ga c s i o))=>k (.c (.one (.ga c s i (o+d)))) bC
   |_=>False
  |none=>False):cM P N ids o K B k:=by
 have m1:x∈o.op.operands:=aE4
 split at h
 .rename_i d n H
  have⟨fs,j6,i,bR,vc,Kb,hi,aM⟩: ∃fs j6 i,P.underlying T=some (.struct fs)/\fs[f]? =some j6/\j6.offset=d/\P.info? j6.type=some i/\i.size≠0:=by
   unfold JP at H
   split at H
   .rename_i ti gW
    split at H
    .rename_i Z;obtain⟨i,tW,bu⟩:=bl.at_ gW;obtain⟨fs,aZ,rfl⟩:=bu.st Z;obtain⟨j6,Qy,E,G,ah,aS,bB⟩:=Qm _ _ (bu.mU fs rfl) f d n H;exact⟨fs,j6,Qy,aZ,by simpa using E,G,ah,by rw[aS];exact bB⟩
    .cases H
   .cases H
  split at h
  .rename_i c p J;exact cM.of h <| bx.one J m1 fun K' ρ I a w au af=>⟨_,fSz (au.ptr af) ai bR vc Kb hi aM,rfl⟩
  .rename_i u y p J;refine cM.of h <| bx.one J m1 fun K' ρ I a w au af=>?_
   obtain⟨b,q,e,G⟩:=au.ev af;exact⟨_,fSz e ai bR vc Kb hi aM,b,q,by rw[Nat.add_assoc],G⟩
  .rename_i c s j p J;exact cM.of h <| bx.one J m1 fun K' ρ I a w au af=>⟨_,fSz (au.ga af) ai bR vc Kb hi aM,by simp only[cx,gC,dW];rw[Nat.add_assoc]⟩
  .exact h.elim
 .exact h.elim
def FT {ρ:Nat->bp} {I:Nat->Prop} {w:aH9} {u:bz} {y:aa u} {c:Nat->Option Value} (aD:cy I w u y c): ∀(n p:Nat),p+n<=aR u-> ∃aE,cf ρ I w (gw u y p n) aE/\ ∀(j:Nat) (v:aI8),aE[j]? =some v->c (p+j)=some v
 |0,p,_=>⟨[],rfl,fun j v h=>by simp at h⟩
 |n+1,p,h=>by
  obtain⟨v,E,G⟩:=cy.cell u y c p aD aD7;obtain⟨aE,ah,aS⟩:=FT aD n (p+1) aD7;refine⟨v::aE,⟨v,aE,rfl,G,ah⟩,fun j dA V=>?_⟩
  match j with
  |0=>simp only[au4,at5] at V;subst V;exact E
  |j+1=>rw[show p+(j+1)=p+1+j by omega];exact aS j dA aF8
def tX (u:bz) (y:aa u): ∀(n p:Nat),(gw u y p n).length=n
 |0,_=>rfl
 |n+1,p=>by simp[gw,tX u y n]
def An (u:bz) (y:aa u): ∀(n p i:Nat),i < n->(gw u y p n)[i]? =some (.d (fB u y (p+i)))
 |0,p,i,h=>by omega
 |n+1,p,0,h=>rfl
 |n+1,p,i+1,h=>by
  have:=An u y n (p+1) i aD7;rw[show p+1+i=p+(i+1) by omega] at this;simpa[gw] using this
def CR {ρ:Nat->bp} {I:Nat->Prop} {w:aH9} {u:bz} {y:aa u} (hw:oV u y) {aE:aH7} (h:cf ρ I w (gw u y 0 (aR u)) aE):cy I w u y (fun j=>aE[j]?):=
 cy.mk u y _ hw fun j V=>by
  have aV:=An u y (aR u) 0 j V;rw[ax6] at aV;obtain⟨v,af,ao⟩:=cf.get _ _ h j _ aV;exact⟨v,af,ao⟩
def FU {T:aI3} {x:aI2} (ai:o.op= .load T x) {ti:b8} {i:aJ3} {d:aJ4} (bu:mq P T ti i d) {u:bz} {y:aa u} {p:Nat} {a:Act} {w:aH9} {I:Nat->Prop} {ρ:Nat->bp} {b q:Nat}
  (U:a.eval x= .pointer (some ⟨b,q+p,none⟩)) (aD:cy I w u y (fun j=>w.cell? ⟨b,q+j,none⟩)):
  (ti.row=true->p+ti.size<=aR u-> ∃r,(execOp a.eval o).run P w= .ok (.value r) w/\cx ρ I w (.c (.agg (gw u y p ti.size))) r)/\
  (ti.row=false->p < aR u-> ∃r,(execOp a.eval o).run P w= .ok (.value r) w/\cx ρ I w (.c (.one (.d (fB u y p)))) r):=by
 constructor
 .intro aj gD;obtain⟨aE,E,G⟩:=FT (ρ:=ρ) aD ti.size p gD;refine⟨_,FR (cs:=aE) ai U bu.oc (bu.row.trans aj) bu.jK (by rw[cf.length _ _ E,tX];exact bu.size) (fun j v V=>?_),aE,rfl,E⟩;rw[Nat.add_assoc];exact G j v V
 .intro aj bv;obtain⟨v,E,G⟩:=cy.cell u y _ p aD bv;exact⟨v,FQ ai U bu.oc (bu.row.trans aj) E,G⟩
def ZY {ρ:Nat->bp} {I F:Nat->Prop} {w:aH9} {p:bp} {e:aI3} {u:bz} {xs:List (aa u)} (h:Holds ρ I F w p (.row e u xs)) {i:Nat} {y:aa u} (aD:eR xs i=some y):
  cy I w u y (fun j=>w.cell? ⟨p.bf,i*aR u+j,none⟩):=by
 obtain⟨E,G,cs,ah,aS⟩:=h;refine cy.mono (cm.refl _ _) u y _ _ (fun j v V=>?_) (aS i y aD);have V:cs[i*aR u+j]? =some v:=V;have hx:=CF aD;have CS:=ah;obtain⟨al,ah⟩:=ah;rcases ah with⟨_,ar⟩ |⟨g,cap,di,aB,_,aV,_,_,_,cq⟩
 .omega
 .have O:p.eS.ownBlock=some g:=by rw[aB];rfl
  rw[<-G g O];have:=CS.cells O (i*aR u+j) v V
  rwa[qo,ax6] at this
def ZZ (bl:d6 P aQ) {T:aI3} {x:aI2} (ai:o.op= .load T x) (h:match aQ.find T with
  |some ti=>match a1 K x with
   | .c (.one (.ptr c o))=>match ae B c with
    |some (.cells l)=>match ti.row with
     |true=>match Nat.ble (o+ti.size) l.length with
      |true=>pD ((l.drop o).take ti.size) fun l=>k (.c (.agg l)) ⟨[c],[],[]⟩
      |false=>False
     |false=>match l[o]? with
      |some s=>Ab s fun s=>k (.c (.one s)) ⟨[c],[],[]⟩
      |none=>False
    |_=>False
   | .c (.one (.el u y o))=>match ti.row with
    |true=>match Nat.ble (o+ti.size) (aR u) with
     |true=>pD (gw u y o ti.size) fun l=>k (.c (.agg l)) bC
     |false=>False
    |false=>match Nat.blt o (aR u) with
     |true=>Aa (fB u y o) fun x=>k (.c (.one (.d x))) bC
     |false=>False
   | .c (.one (.ga c s i o))=>match ae B c with
    |some (.row _ u xs)=>match Nat.beq s (aR u) with
     |true=> ∃y,eR xs i=some y/\match ti.row with
      |true=>match Nat.ble (o+ti.size) (aR u) with
       |true=>pD (gw u y o ti.size) fun l=>k (.c (.agg l)) ⟨[c],[],[]⟩
       |false=>False
      |false=>match Nat.blt o (aR u) with
       |true=>Aa (fB u y o) fun x=>k (.c (.one (.d x))) ⟨[c],[],[]⟩
       |false=>False
     |false=>False
    |_=>False
   |_=>False
  |none=>False):cM P N ids o K B k:=by
 have m1:x∈o.op.operands:=aE4
 split at h
 .rename_i ti gW;obtain⟨i,d,bu⟩:=bl.at_ gW
  split at h
  .rename_i c p J
   split at h
   .rename_i l al
    have key: ∀(K':aW) (B':ay),(∀x,x∈o.op.operands->a1 K' x=a1 K x)->(∀d,d∈ [c]->ae B' d=ae B d)-> ∀(C:fc) (ρ:Nat->bp) (F:Nat->Nat->Prop) (a:Act) (w:aH9),Mem ids C B' ρ F w->eo K' ρ (bZ C B' F w) a w->
      a.eval x= .pointer (some ⟨(ρ c).bf,p,none⟩)/\ ∃aE T,w.heap[(ρ c).bf]? =some (.cells (List.toArray aE) T (0,0))/\cf ρ (bZ C B' F w) w l aE:=fun K' B' E G C ρ F a w ak au=>by
     have bd:=ak.holds c _ ((G c aD9).trans al);exact⟨au.ptr ((E x m1).trans J),bd.2⟩
    split at h
    .rename_i aj
     split at h
     .rename_i gD;have gD:=aA2 gD;rw[Ac] at h;refine cM.of h <| bx.val fun K' B' E G C ρ F a w ak au=>?_
      obtain⟨af,aE,ew,O,H⟩:=key K' B' E G C ρ F a w ak au;have lf:=cf.FP ti.size _ _ (cf.ry p _ _ H);refine⟨_,FR (cs:=(aE.drop p).take ti.size) ai af bu.oc (bu.row.trans aj) bu.jK ?_ (fun j u V=>?_),_,rfl,lf⟩
      .rw[cf.length _ _ lf,at9,ax8,bu.size];omega
      .rw[ay5] at V
       split at V
       .rw[aC3] at V;exact o1 O V
       .cases V
     .exact h.elim
    .rename_i aj
     split at h
     .rename_i s aw;rw[Jy] at h;refine cM.of h <| bx.val fun K' B' E G C ρ F a w ak au=>?_
      obtain⟨af,aE,ew,O,H⟩:=key K' B' E G C ρ F a w ak au;obtain⟨v,aB,lf⟩:=cf.get _ _ H p s aw;exact⟨v,FQ ai af bu.oc (bu.row.trans aj) (o1 O aB),lf⟩
     .exact h.elim
   .exact h.elim
  .rename_i u y p J
   split at h
   .rename_i aj
    split at h
    .rename_i gD;rw[Ac] at h;refine cM.of h <| bx.one J m1 fun K' ρ I a w au af=>?_
     obtain⟨b,q,e,_,aD⟩:=au.ev af;exact(FU ai bu e aD).1 aj (aA2 gD)
    .exact h.elim
   .rename_i aj
    split at h
    .rename_i bv;rw[Jx] at h;refine cM.of h <| bx.one J m1 fun K' ρ I a w au af=>?_
     obtain⟨b,q,e,_,aD⟩:=au.ev af;exact(FU ai bu e aD).2 aj (by simpa[Nat.blt_eq] using bv)
    .exact h.elim
  .rename_i c s j p J
   split at h
   .rename_i e u xs al
    split at h
    .rename_i aw;have aw:=at8 aw;subst aw;obtain⟨y,aD,h⟩:=h
     have key: ∀(K':aW) (B':ay),(∀x,x∈o.op.operands->a1 K' x=a1 K x)->(∀d,d∈ [c]->ae B' d=ae B d)-> ∀(C:fc) (ρ:Nat->bp) (F:Nat->Nat->Prop) (a:Act) (w:aH9),Mem ids C B' ρ F w->eo K' ρ (bZ C B' F w) a w->
       a.eval x= .pointer (some ⟨(ρ c).bf,j*aR u+p,none⟩)/\cy (bZ C B' F w) w u y (fun i=>w.cell? ⟨(ρ c).bf,j*aR u+i,none⟩):=fun K' B' E G C ρ F a w ak au=>
      ⟨au.ga ((E x m1).trans J),ZY (ak.holds c _ ((G c aD9).trans al)) aD⟩
     split at h
     .rename_i aj
      split at h
      .rename_i gD;rw[Ac] at h;refine cM.of h <| bx.val fun K' B' E G C ρ F a w ak au=>?_
       obtain⟨af,ao⟩:=key K' B' E G C ρ F a w ak au;exact(FU ai bu af ao).1 aj (aA2 gD)
      .exact h.elim
     .rename_i aj
      split at h
      .rename_i bv;rw[Jx] at h;refine cM.of h <| bx.val fun K' B' E G C ρ F a w ak au=>?_
       obtain⟨af,ao⟩:=key K' B' E G C ρ F a w ak au;exact(FU ai bu af ao).2 aj (by simpa[Nat.blt_eq] using bv)
      .exact h.elim
    .exact h.elim
   .exact h.elim
  .exact h.elim
 .exact h.elim
end
end
section
section
variable {ρ:Nat->bp} {I:Nat->Prop} {w:aH9}
def cy.wf: ∀(u:bz) (x:aa u) (c:Nat->Option Value),cy I w u x c->oV u x:=by
 intro u
 induction u with
 |bV u v oW oX=>exact fun x c h=>⟨oW _ _ h.1,oX _ _ h.2⟩
 |arr n u bk=>
  refine fun x c h=>⟨h.1,fun y aD=>?_⟩
  obtain⟨i,hi⟩:=List.getElem?_of_mem (α:=aa u) aD;exact bk _ _ (h.2 i y hi)
 |_=>exact fun x c h=>trivial
def cy.one (u:bz) (x:aa u) (c:Nat->Option Value) (h:cy I w u x c) (j:Nat) (V:j < aR u): ∃v,c j=some v/\v.oneCell'=true:=by obtain⟨v,E,G⟩:=cy.cell u x c j h V;exact⟨v,E,ok_one (ρ:=fun _=>⟨0,none,0,0⟩) (s:=.d (fB u x j)) rfl G⟩
def Qz {i j n s:Nat} (hi:i < n) (V:j < s):i*s+j < n*s:=by have:=az6 s hi;rw[aA6] at this;omega
def QA {u:bz} {ys:List (aa u)} {v:aI8} (h:cy I w (.ci u) ys (fun _=>some v)) (a7: ∀b,I b->b < w.heap.size):
  ∃gK,hS I w (aR u) v ys.length gK/\hC I w u ys gK/\ ∀x∈gK,x.oneCell'=true:=by
 obtain⟨A,cap,e,E,G,ah⟩:=h;injection e with e
 subst e;rcases aC2 ys.length with ar |ar
 .have aD:ys=[]:=aw5 ar;subst aD;exact⟨[],⟨aD9,A,cap,rfl,E,G,fun h=>at1 h aD9⟩,fun i x hx=>by simp at hx,fun x hx=>by cases hx⟩
 .obtain⟨b,o,rfl,O,hx⟩:=ah ar
  have J: ∀i (hi:i < ys.length) j,j < aR u-> ∃v,w.cell? ⟨b,o+(i*aR u+j),none⟩=some v/\v.oneCell'=true:=fun i hi j V=>
   cy.one u _ _ (hx i ys[i] (by simp[eR,hi])) j V
  have hn: ∀j,j < ys.length*aR u-> ∃v,w.cell? ⟨b,o+j,none⟩=some v/\v.oneCell'=true:=fun j V=>by
   obtain⟨af,ao,br⟩:=Ju V;have:=J _ af _ ao
   rwa[br] at this
  have kp: ∀j,j < ys.length*aR u->((List.range (ys.length*aR u)).map fun j=>(w.cell? ⟨b,o+j,none⟩).getD undef)[j]? =w.cell? ⟨b,o+j,none⟩:=fun j V=>by
   obtain⟨v,aB,_⟩:=hn j V;rw[av1,List.getElem?_range V];simp[aB]
  refine⟨(List.range (ys.length*aR u)).map fun j=>(w.cell? ⟨b,o+j,none⟩).getD undef,⟨aD9,some ⟨b,o,none⟩,cap,rfl,E,G,fun _=>⟨b,o,rfl,O,a7 b O,fun j x V=>?_⟩⟩,fun i x dq=>?_,fun x dq=>?_⟩
  .have kR:=(au0.1 V).1;simp only[au3,List.length_range] at kR
   rwa[kp j kR] at V
  .have hi:=(au0.1 dq).1;have H:=hx i x dq;refine cy.mk u x _ (cy.wf u x _ H) fun j V=>?_
   obtain⟨v,aB,aS⟩:=cy.cell u x _ j H V;exact⟨v,by rw[kp _ (Qz hi V)];exact aB,aS⟩
  .obtain⟨j,V,rfl⟩:=av7.1 dq;obtain⟨v,aB,aS⟩:=hn j (List.mem_range.1 V);simpa[aB] using aS
def hC.u' {u:bz} {xs ys:List (aa u)} {cs ds:aH7} (h:hC I w u xs cs) (h':hC I w u ys ds) (al:cs.length=xs.length*aR u):hC I w u (xs++ys) (cs++ds):=fun i x hx=>by
 by_cases hi:i < xs.length
 .rw[av8 hi] at hx;have H:=h i x hx;refine cy.mk u x _ (cy.wf u x _ H) fun j V=>?_
  obtain⟨v,aB,aS⟩:=cy.cell u x _ j H V;exact⟨v,by rw[av8 (by rw[al];exact Qz hi V)];exact aB,aS⟩
 .rw[aw4 aD7] at hx;have H:=h' _ x hx;refine cy.mono (cm.refl _ _) u x _ _ (fun j v V=>?_) H;have e:i*aR u=xs.length*aR u+(i - xs.length)*aR u:=by rw[<-Nat.add_mul];congr 1;omega
  rw[aw4 (by rw[al,e];omega),<-V,al,e]
  congr 1
  omega
def hC.nil (u:bz):hC I w u [] []:=fun i x hx=>by simp at hx
def CT {ρ:Nat->bp} {F:Nat->Prop} {p:bp} {e:aI3} {u:bz} {xs:List (aa u)} (h:Holds ρ I F w p (.row e u xs)) {I':Nat->Prop} (a7: ∀b,I b->I' b) (bg: ∀b,F b->I' b):cy I' w (.ci u) xs (fun _=>some p.eS):=by
 obtain⟨E,G,cs,ah,aS⟩:=h;have CS:=ah;rcases ah.2 with⟨aB,ar⟩ |⟨g,cap,di,aB,_,aV,al,aC,_,_⟩
 .exact⟨none,0,by rw[aB,ar],aD7,aD8,fun h=>at1 h aD7⟩
 .refine⟨some ⟨g,0,none⟩,cap,by rw[aB],al,aC,fun _=>⟨g,0,rfl,bg g ((E g).2 (by rw[aB];rfl)),fun i x hx=>?_⟩⟩;refine cy.mono (fun b O=>⟨a7 b O,rfl⟩) u x _ _ (fun j v V=>?_) (aS i x hx);have:=CS.cells (g:=g) (by rw[aB];rfl) _ v V
  rwa[qo] at this
end
section
variable {P:aI0} {aQ:df} {N:Nat} {ids:aH4} {o:Oper} {K:aW} {B:ay} {k:aN->fk->Prop} {C:fc} {ρ:Nat->bp} {F:Nat->Nat->Prop} {w w':aH9}
def CU {b:Nat} {cs:aJ6} {S:Nat->Prop} (au:S b):cU S w (w.setRow b cs):=
 ⟨rfl,rfl,rfl,by simp[World.setRow],fun j _ hn=>setRow_other w b j cs (fun e=>hn (by rw[e];exact au))⟩
def QB {p q:Option Prop} (h:u2 (JE p q)):u2 p/\u2 q:=by cases p <;>cases q <;>first |exact⟨trivial,trivial⟩ |exact⟨trivial,h⟩ |exact⟨h,trivial⟩ |exact h
def rz {α:Type} (u:bz) (f:List bA->Option (α×List bA×Option Prop)) (g:α->aa u):Prop:= ∀(ρ:Nat->bp) (I:Nat->Prop) (w:aH9) (l:List bA) (x:α) (l':List bA) (p:Option Prop),f l=some (x,l',p)->u2 p-> ∀aE,cf ρ I w l aE->
 ∃od tY,aE=od++tY/\od.length=aR u/\cy I w u (g x) (fun j=>od[j]?)/\cf ρ I w l' tY/\ ∀v∈od,v.oneCell'=true
def Z0 (k:IntKind):rz (.int k) (JF k) (fun x=>x):=by
 intro ρ I w l x l' p h ag aE aB;unfold JF at h
 split at h
 .rename_i ec n l
  split at h
  .rename_i Z;have:=ob Z;subst this;simp only[at5,az0] at h;obtain⟨rfl,rfl,rfl⟩:=h;obtain⟨v,r,rfl,E,G⟩:=aB;have E:v= .int ec n:=E;subst E;exact⟨[.int ec n],r,rfl,rfl,rfl,G,by simp[Value.oneCell']⟩
  .cases h
 .cases h
def Z1:rz .u8 JG (fun x=>x):=by
 intro ρ I w l x l' p h ag aE aB;unfold JG at h
 split at h
 .rename_i ec n l
  split at h
  .rename_i Z;have:=ob Z;subst this;simp only[at5,az0] at h;obtain⟨rfl,rfl,rfl⟩:=h;obtain⟨v,r,rfl,E,G⟩:=aB;have E:v= .int .u8 n:=E;subst E;have ag:0<=n/\n < 256:=ag;refine⟨[.int .u8 n],r,rfl,rfl,?_,G,by simp[Value.oneCell']⟩;show some (Value.int .u8 n)=some (Value.int .u8 ((UInt8.ofNat n.toNat).toNat:Int))
   congr 2
   rw[UInt8.toNat_ofNat'];omega
  .cases h
 .cases h
def Z2:rz .bool JH (fun x=>x):=by
 intro ρ I w l x l' p h ag aE aB;unfold JH at h
 split at h
 all_goals first |(cases h;done) |skip
 all_goals
  rename_i b l;simp only[at5,az0] at h;obtain⟨rfl,rfl,rfl⟩:=h;obtain⟨v,r,rfl,E,G⟩:=aB;have E:v= .bool b:=E;subst E;exact⟨[.bool b],r,rfl,rfl,rfl,G,by simp[Value.oneCell']⟩
def Z3:rz .str JI (fun x=>x):=by
 intro ρ I w l x l' p h ag aE aB;unfold JI at h
 split at h
 .rename_i s l;simp only[at5,az0] at h;obtain⟨rfl,rfl,rfl⟩:=h;obtain⟨v,r,rfl,E,G⟩:=aB;have E:v= .string ⟨s.toArray⟩:=E;subst E;exact⟨[_],r,rfl,rfl,rfl,G,by simp[Value.oneCell']⟩
 .cases h
def Z4:rz .da JK (fun x=>x):=by
 intro ρ I w l x l' p h ag aE aB;unfold JK at h
 split at h
 .rename_i s l;simp only[at5,az0] at h;obtain⟨rfl,rfl,rfl⟩:=h;obtain⟨v,r,rfl,E,G⟩:=aB;have E:v=rp s:=E;subst E;refine⟨[_],r,rfl,rfl,rfl,G,?_⟩;rcases s with _ |⟨b,n,c⟩ <;>simp[Value.oneCell',rp]
 .rename_i l;simp only[at5,az0] at h;obtain⟨rfl,rfl,rfl⟩:=h;obtain⟨v,r,rfl,E,G⟩:=aB;have E:v= .slice none 0 0:=E;subst E;exact⟨[_],r,rfl,rfl,rfl,G,by simp[Value.oneCell']⟩
 .cases h
def QC {ρ:Nat->bp} {I:Nat->Prop} {w:aH9}: ∀{m:List kL} {bs:aH4} {aE:aH7},CI m=some bs->h5 ρ I w m aE->aE=rq bs
 | [],bs,aE,h,aB=>by
  unfold CI at h;injection h with h
  rw[<-h];exact aB
 |c::m,bs,aE,h,aB=>by
  unfold CI at h
  split at h
  .rename_i e;cases e
  .rename_i b l e;injection e with af ao
   subst af ao
   split at h
   .rename_i r aj;injection h with h
    subst h;obtain⟨v,t,e,E,G⟩:=aB;have E:v= .pointer (some ⟨b,0,none⟩):=E;rw[e,E,QC aj G];rfl
   .cases h
  .cases h
def Z5:rz .fn JL (fun x=>x):=by
 intro ρ I w l x l' p h ag aE aB;unfold JL at h
 split at h
 .rename_i s l;simp only[at5,az0] at h;obtain⟨rfl,rfl,rfl⟩:=h;obtain⟨v,r,rfl,E,G⟩:=aB;have E:v=kK s:=E;subst E;exact⟨[_],r,rfl,rfl,rfl,G,by simp[Value.oneCell',kK]⟩
 .rename_i f m l
  split at h
  .rename_i bs Kc;simp only[at5,az0] at h;obtain⟨rfl,rfl,rfl⟩:=h;obtain⟨v,r,rfl,⟨us,e,J⟩,G⟩:=aB;have yn:=QC Kc J;subst e yn;exact⟨[_],r,rfl,rfl,rfl,G,by simp[Value.oneCell']⟩
  .cases h
 .cases h
def Z6:rz .aL JJ (fun x=>x):=by
 intro ρ I w l x l' p h ag aE aB;unfold JJ at h
 split at h
 .rename_i s l;simp only[at5,az0] at h;obtain⟨rfl,rfl,rfl⟩:=h;obtain⟨v,r,rfl,E,G⟩:=aB;have E:v= .pointer (n2 s):=E;subst E;exact⟨[_],r,rfl,rfl,rfl,G,by simp[Value.oneCell']⟩
 .rename_i l;simp only[at5,az0] at h;obtain⟨rfl,rfl,rfl⟩:=h;obtain⟨v,r,rfl,E,G⟩:=aB;have E:v= .pointer none:=E;subst E;exact⟨[_],r,rfl,rfl,rfl,G,by simp[Value.oneCell']⟩
 .cases h
def Z7 (u:bz):rz (.ci u) (JM u) (fun x=>x):=by
 intro ρ I w l x l' p h ag aE aB;unfold JM at h
 split at h
 .rename_i l;simp only[at5,az0] at h;obtain⟨rfl,rfl,rfl⟩:=h;obtain⟨v,r,rfl,E,G⟩:=aB;have E:v= .slice none 0 0:=E;subst E;exact⟨[_],r,rfl,rfl,⟨none,0,rfl,at0 _,aD8,fun h=>at1 h aD9⟩,G,by simp[Value.oneCell']⟩
 .rename_i v xs l
  split at h
  .rename_i U _;subst U;simp only[at5,az0] at h;obtain⟨rfl,rfl,rfl⟩:=h;obtain⟨v,r,rfl,E,G⟩:=aB;have E:cy I w (.ci _) xs (fun _=>some v):=E;refine⟨[v],r,rfl,rfl,?_,G,?_⟩
   .obtain⟨A,cap,e,ah⟩:=E;exact⟨A,cap,e,ah⟩
   .obtain⟨A,cap,e,ah⟩:=E;injection e with e
    subst e;simp[Value.oneCell']
  .cases h
 .cases h
def Z8 {u v:bz} (E:rz u (n4 u) (fun x=>x)) (G:rz v (n4 v) (fun x=>x)):rz (.bV u v) (n4 (.bV u v)) (fun x=>x):=by
 intro ρ I w l x l' p h ag aE aB;unfold n4 at h
 cases af:n4 u l with
 |none=>simp only[af] at h;cases h
 |some t=>
  obtain⟨y,kq,d3⟩:=t;simp only[af] at h
  cases ao:n4 v kq with
  |none=>simp only[ao] at h;cases h
  |some t=>
   obtain⟨aH,hF,cX⟩:=t;simp only[ao,at5,az0] at h;obtain⟨rfl,rfl,rfl⟩:=h;obtain⟨cr,cv⟩:=QB ag;obtain⟨od,r1,rfl,g1,g2,cL,g8⟩:=E ρ I w l y kq d3 af cr aE aB;obtain⟨tY,r2,rfl,cl,cY,ek,eL⟩:=G ρ I w kq aH _ cX ao cv r1 cL;refine⟨od++tY,r2,aD9,by simp[aR,g1,cl],⟨?_,?_⟩,ek,fun x hx=>(av9.1 hx).elim (g8 x) (eL x)⟩
   .refine cy.mk u y _ (cy.wf u y _ g2) fun j V=>?_
    obtain⟨x,hx,H⟩:=cy.cell u y _ j g2 V;exact⟨x,by rw[av8 aD7];exact hx,H⟩
   .refine cy.mono (cm.refl _ _) v aH _ _ (fun j x V=>?_) cY;show(od++tY)[aR u+j]? =some x;rw[aw4 aD7,show aR u+j - od.length=j by omega];exact V
def Ao: ∀u:bz,rz u (n4 u) (fun x=>x)
 | .int k=>Z0 k
 | .u8=>Z1
 | .bool=>Z2
 | .str=>Z3
 | .aL=>Z6
 | .da=>Z4
 | .fn=>Z5
 | .ci u=>Z7 u
 | .bV u v=>Z8 (Ao u) (Ao v)
 | .arr n u=>fun ρ I w l x l' p h=>by unfold n4 at h;cases h
def Kd {ρ:Nat->bp} {I:Nat->Prop} {w:aH9} (u:bz): ∀(n:Nat) (l:List bA) (xs:List (aa u)) (p:Option Prop),yd u n l=some (xs,p)->u2 p-> ∀aE,cf ρ I w l aE->xs.length=n/\aE.length=n*aR u/\hC I w u xs aE/\ ∀v∈aE,v.oneCell'=true
 |0,l,xs,p,h,ag,aE,aB=>by
  unfold yd at h
  split at h
  .simp only[at5,az0] at h;obtain⟨rfl,rfl⟩:=h;rw[show aE=[] from aB];exact⟨rfl,aD9,hC.nil u,aD9⟩
  .cases h
  .rename_i e;cases e
 |n+1,l,xs,p,h,ag,aE,aB=>by
  unfold yd at h
  cases af:n4 u l with
  |none=>simp only[af] at h;cases h
  |some t=>
   obtain⟨y,kq,d3⟩:=t;simp only[af] at h
   cases ao:yd u n kq with
   |none=>simp only[ao] at h;cases h
   |some t=>
    obtain⟨ys,cX⟩:=t;simp only[ao,at5,az0] at h;obtain⟨rfl,rfl⟩:=h;obtain⟨cr,cv⟩:=QB ag;obtain⟨od,r1,rfl,g1,g2,cL,g8⟩:=Ao u ρ I w l y kq d3 af cr aE aB;obtain⟨cl,cY,ek,eL⟩:=Kd u n kq ys cX ao cv r1 cL;refine⟨by simp[cl],by simp[g1,cY,aA6,Nat.add_comm],?_,fun x hx=>(av9.1 hx).elim (g8 x) (eL x)⟩
    have:hC I w u [y] od:=fun i x hx=>by
     match i with
     |0=>
      simp only[au4,at5] at hx;subst hx;exact cy.mono (cm.refl _ _) u y _ _ (fun j v V=>by simpa using V) g2
     |i+1=>simp at hx
    exact hC.u' this ek (by simpa using g1)
def Z9 (bl:d6 P aQ) {T:aI3} {x v:aI2} (ai:o.op= .store T x v) (h:match aQ.find T with
  |some ti=>match a1 K x with
   | .c (.one (.ptr c o))=>match ae B c with
    |some (.cells l)=>match wG (a1 K v) with
     |some cs=>match Nat.beq cs.length ti.size,Nat.ble (o+cs.length) l.length with
      |true,true=>pD (CH l o cs) fun l=>k .undef ⟨[c],[],[(c,some (.cells l))]⟩
      |_,_=>False
     |none=>False
    |_=>False
   | .c (.one (.ga c s i o))=>match ae B c with
    |some (.row e u xs)=>match Nat.beq (aR u) 1,Nat.beq s 1,Nat.beq o 0,Nat.beq ti.size 1,a1 K v with
     |true,true,true,true,.c (.one pF)=>match n4 u [pF] with
      |some (y,[],p)=>(u2 p/\i < xs.length)/\k .undef ⟨[c],[],[(c,some (.row e u (xs.set i y)))]⟩
      |_=>False
     |_,_,_,_,_=>False
    |_=>False
   |_=>False
  |none=>False):cM P N ids o K B k:=by
 have m1:x∈o.op.operands:=aE4
 have m2:v∈o.op.operands:=aE4
 split at h
 .rename_i ti gW;obtain⟨c9,d,bu⟩:=bl.at_ gW
  split at h
  .rename_i c p J
   split at h
   .rename_i l al
    split at h
    .rename_i cs fC
     split at h
     .rename_i E G;have E:=at8 E;have G:=aA2 G;rw[Ac] at h;refine cM.of h <| bx.hT al fun K' B' af C ρ F a w ak au fG=>?_
      obtain⟨bg,aE,ew,O,H⟩:=ak.holds c _ fG;have aB:=au.get v;rw[af v m2] at aB;obtain⟨us,Z',FV,aaa⟩:=Ka fC aB;have bW:=cf.length _ _ FV;have Ke:=cf.length _ _ H;refine⟨_,CQ ai (au.ptr ((af x m1).trans J)) Z' bu.jK (by rw[bW,E];exact bu.size) O aD7 aaa,CU ((bg _).2 rfl),fun I U=>⟨bg,_,ew,setRow_heap w _ _ _ ew _ O,?_⟩⟩;exact cf.splice (cf.mono U _ _ (fun _ _=>rfl) H) (cf.mono U _ _ (fun _ _=>rfl) FV)
     .exact h.elim
    .exact h.elim
   .exact h.elim
  .rename_i c s i p J
   split at h
   .rename_i e u xs al
    split at h
    .rename_i pF kr bD sI o2 qs
     split at h
     .rename_i y q Kf;have kr:=at8 kr;have bD:=at8 bD;have sI:=at8 sI;subst bD sI;obtain⟨⟨a2,hi⟩,h⟩:=h;refine cM.of h <| bx.hT al fun K' B' af C ρ F a w ak au fG=>?_
      obtain⟨bg,j7,cs,dV,mW⟩:=ak.holds c _ fG;have aB:=au.get v;rw[af v m2,qs] at aB;have Kg:=au.ga ((af x m1).trans J);obtain⟨od,tY,c0,g1,g2,cL,g8⟩:=Ao u ρ _ w [pF] y [] q Kf a2 [a.eval v] ⟨_,[],rfl,aB,rfl⟩;have bW:od.length=1:=by rw[g1,kr]
      obtain rfl:od=[a.eval v]:=by
       match od,bW with
       | [aH],_=>simp at c0;rw[c0.1]
      have vb:=g8 (a.eval v) aD9
      have CC:(a.eval v).cells=List.toArray [a.eval v]:=by
       cases hx:a.eval v <;>first |rfl |(rw[hx] at vb;simp[Value.oneCell'] at vb)
      have QD:=dV;obtain⟨n1,dV⟩:=dV;rcases dV with⟨_,ar⟩ |⟨g,cap,di,o3,_,aV,sJ,aC,cA,cq⟩
      .omega
      .have Ap:g=(ρ c).bf:=j7 g (by rw[o3];rfl);subst Ap;rw[kr,Nat.mul_one] at cA cq n1;have vd:w.heap[(ρ c).bf]? =some (.cells (List.toArray di.toList) e (0,0)):=by simpa using aV
       have jL:i*1+0+ [a.eval v].length<=di.toList.length:=aF5
       have qt:=CQ (P:=P) (ev:=a.eval) (w:=w) ai Kg CC bu.jK (by rw[bu.size,at8 o2];rfl) vd jL (by simpa using vb);refine⟨_,qt,CU ((bg _).2 (by rw[o3];rfl)),fun I U=>?_⟩;have mX:=setRow_heap w (ρ c).bf di (List.take (i*1+0) di.toList++[a.eval v]++List.drop (i*1+0+ [a.eval v].length) di.toList).toArray e (0,0) aV
       have hG:(List.take (i*1+0) di.toList++[a.eval v]++List.drop (i*1+0+ [a.eval v].length) di.toList)=di.toList.set i (a.eval v):=by
        rw[List.set_eq_take_append_cons_drop,vj aF5];simp
       rw[hG] at mX;refine⟨bg,j7,cs.set i (a.eval v),⟨by simp[n1,kr],.inr ⟨(ρ c).bf,cap,_,by rw[o3];simp,at6 _,by rw[hG];exact mX,by simpa using sJ,aC,by simp[cA,kr],?_⟩⟩,fun j aH aM=>?_⟩
       .rw[<-cq];simp[kr,List.take_set]
       .by_cases lg:i=j
        .subst lg;rw[ay7 hi] at aM;injection aM with aM
         subst aM;refine cy.mono U u y _ _ (fun q x hx=>?_) g2
         match q with
         |0=>
          rw[kr,Nat.mul_one,aA0,ay7 aD7];simpa using hx
         |q+1=>simp at hx
        .rw[ax4 lg] at aM;have H:=mW j aH aM;refine cy.mk u aH _ (cy.wf u aH _ H) fun q a2=>?_
         obtain⟨x,hx,pG⟩:=cy.cell u aH _ q H a2;refine⟨x,?_,gL.mono U _ _ pG⟩;rw[kr] at a2⊢;rw[kr] at hx;rw[ax4 aD7];exact hx
     .exact h.elim
    .exact h.elim
   .exact h.elim
  .exact h.elim
 .exact h.elim
end
end
section
section
variable {P:aI0} {aQ:df} {N:Nat} {ids:aH4} {o:Oper} {K:aW} {B:ay} {k:aN->fk->Prop}
def QE {ρ:Nat->bp} {I:Nat->Prop} {w:aH9} {v:aI8} {s:bA} (h:J5 v s=true):dW ρ I w s v/\v.oneCell'=true:=by
 unfold J5 at h
 split at h
 .rename_i k n ec sH;simp only[as8,aw0] at h;have:=ob h.1;subst this;rw[h.2];exact⟨rfl,rfl⟩
 .rename_i b d5;rw[show b=d5 by simpa using h];exact⟨rfl,rfl⟩
 .rename_i s l;have h:s.data.toList=l:=aE6
  subst h;exact⟨by simp[dW,gL],rfl⟩
 .exact⟨rfl,rfl⟩
 .exact⟨rfl,rfl⟩
 .exact⟨rfl,rfl⟩
 .exact⟨rfl,rfl⟩
 .exact⟨rfl,rfl⟩
 .cases h
def wL {ρ:Nat->bp} {I:Nat->Prop} {w:aH9}: ∀(aE:aH7) (l:List bA),tV aE l=true->cf ρ I w l aE/\ ∀u∈aE,u.oneCell'=true
 | [],[],_=>⟨rfl,aD9⟩
 |v::aE,s::l,h=>by
  simp only[tV,as8] at h;obtain⟨E,G⟩:=QE (ρ:=ρ) (I:=I) (w:=w) h.1;obtain⟨ah,aS⟩:=wL (ρ:=ρ) (I:=I) (w:=w) aE l h.2;exact⟨⟨v,aE,rfl,E,ah⟩,fun u aZ=>(at7.1 aZ).elim (fun e=>e▸G) (aS u)⟩
 | [],_::_,h=>by simp[tV] at h
 |_::_,[],h=>by simp[tV] at h
def QF {c d p:Nat} (h:aN.has d (.c (.one (.ptr c p)))=true):d=c:=(at8 h).symm
def Aq {c d:Nat} (h:aN.has d (.c (.one (.own c)))=true):d=c:=(at8 h).symm
def aab (bl:d6 P aQ) {T:aI3} (ai:o.op= .alloc T) (h:match aQ.find T,o.dst with
  |some ti,some d=>g7 ids K B d=true/\k (.c (.one (.ptr d 0))) ⟨[],[d],[(d,some (.cells ti.zero))]⟩
  |_,_=>False):cM P N ids o K B k:=by
 split at h
 .rename_i ti d gW H;obtain⟨i,ds,bu⟩:=bl.at_ gW;obtain⟨aH,aM,o4⟩:=bu.zero;refine cM.ba h.2 h.1 <| bx.make (fun d h=>QF h) fun K' B' E G C ρ F a w ak au hn=>?_
  refine⟨_,_,⟨w.heap.size,none,0,0⟩,fun b=>b=w.heap.size,(by
   simp[execOp,ai,Instr.alloc,zeroValue,typeInfo,bu.jK,aM,newVar,newRow];rfl),wD w _,fun b O=>by subst O;exact⟨at0 _,aD9⟩,fun I U O=>⟨⟨fun b=>Iff.rfl,aH.cells.toList,T,Jt _ rfl,(wL _ _ o4).1⟩,?_⟩⟩
  simp only[cx,gC,dW,dB]
 .exact h.elim
def aac (bl:d6 P aQ) {T:aI3} {x:aI2} (ai:o.op= .box T x) (h:match aQ.find T,o.dst,wG (a1 K x) with
  |some ti,some d,some l=>match Nat.beq l.length ti.size with
   |true=>g7 ids K B d=true/\k (.c (.one (.ptr d 0))) ⟨[],[d],[(d,some (.cells l))]⟩
   |false=>False
  |_,_,_=>False):cM P N ids o K B k:=by
 have m1:x∈o.op.operands:=aE4
 split at h
 .rename_i ti d l gW H al
  split at h
  .refine cM.ba h.2 h.1 <| bx.make (fun d h=>QF h) fun K' B' E G C ρ F a w ak au hn=>?_
   have aB:=au.get x;rw[E x m1] at aB;obtain⟨aE,af,ao,br⟩:=Ka al aB
   refine⟨_,_,⟨w.heap.size,none,0,0⟩,fun b=>b=w.heap.size,(by
    simp[execOp,ai,Instr.box,newVar,newRow,af];rfl),wD w _,fun b O=>by subst O;exact⟨at0 _,aD9⟩,fun I U O=>⟨⟨fun b=>Iff.rfl,aE,T,Jt _ rfl,?_⟩,?_⟩⟩
   .refine cf.mono U l aE (fun c J=>?_) ao;refine dD _ _ fun e=>?_
    subst e
    have bd:(a1 K x).has c=true:=by
     unfold wG at al
     split at al
     .rename_i hx
      split at al
      .injection al with al;subst al;rw[hx];simpa[aN.has,dQ.has,mR] using J
      .cases al
     .rename_i hx
      split at al
      .injection al with al;subst al;rw[hx];simpa[aN.has,dQ.has] using J
      .cases al
     .cases al
    rw[<-E x m1] at bd
    cases x with
    |tmp t=>have:=hn t;simp only[a1] at bd;rw[this] at bd;cases bd
    |const v=>
     have l2: ∀u:Value,(wE u).has c=false:=fun u=>by unfold wE;split <;>rfl
     have dR: ∀us:List Value,mR c (us.map wE)=false:=fun us=>by induction us with
      |nil=>rfl
      |cons u us bk=>simp[mR,l2,bk]
     simp only[a1] at bd;unfold Fo at bd
     split at bd <;>simp[aN.has,dQ.has,l2,dR] at bd
    |func f=>simp[a1,aN.has,dQ.has,bA.has,mn] at bd
    |global g=>simp[a1,aN.has,dQ.has,bA.has] at bd
   .simp only[cx,gC,dW,dB]
  .exact h.elim
 .exact h.elim
def QG: ∀(us:aH7) (off j:Nat) (p m s:aH7),p.length=off+j->m.length=us.length->
  (us.zipIdx j).foldl (fun cs p=>cs.setIfInBounds (off+p.2) p.1) (p++m++s).toArray=(p++us++s).toArray
 | [],off,j,p,m,s,ag,aC=>by
  rw[show m=[] from aw5 (by simpa using aC)];simp
 |u::us,off,j,p,[],s,ag,aC=>by simp at aC
 |u::us,off,j,p,x::m,s,ag,aC=>by
  simp only[List.zipIdx_cons,List.foldl_cons]
  have e:(p++x::m++s).toArray.setIfInBounds (off+j) u=((p++[u])++m++s).toArray:=by
   rw[List.setIfInBounds_toArray,<-ag];simp
  rw[e,QG us off (j+1) (p++[u]) m s aF5 (by simpa using aC)];simp
def aad (us aE:aH7) (off:Nat) (h:off+us.length<=aE.length):
  (us.zipIdx).foldl (fun cs p=>cs.setIfInBounds (off+p.2) p.1) aE.toArray=(aE.take off++us++aE.drop (off+us.length)).toArray:=by
 have e:aE=aE.take off++(aE.drop off).take us.length++aE.drop (off+us.length):=by
  rw[aw8,<-List.drop_drop,List.take_append_drop,List.take_append_drop]
 have:=QG us off 0 (aE.take off) ((aE.drop off).take us.length) (aE.drop (off+us.length)) aF5 aF5;rw[<-e] at this;exact this
def Kh {K':aW} {ρ:Nat->bp} {I:Nat->Prop} {a:Act} {w:aH9} (au:eo K' ρ I a w) {mU place:Nat->Option (Nat×Nat)} (gX: ∀i d n,mU i=some (d,n)->place i=some (d,n)):
  ∀(bF:List (Nat×Operand)) (l l':List bA) (aE:aH7),(∀p∈bF,a1 K' p.2=a1 K p.2)->wH K mU bF l=some l'->cf ρ I w l aE->(∀u∈aE,u.oneCell'=true)->
   ∃sK,Instr.fill place (List.toArray aE) (bF.map fun p=>(p.1,a.eval p.2))=some (List.toArray sK)/\cf ρ I w l' sK/\ ∀u∈sK,u.oneCell'=true
 | [],l,l',aE,_,h,aB,E=>by
  simp only[wH,at5] at h;subst h;exact⟨aE,rfl,aB,E⟩
 |(i,x)::bF,l,l',aE,cR,h,aB,E=>by
  unfold wH at h
  split at h
  .rename_i d n cs H fC
   split at h
   .rename_i af ao;have af:=at8 af;have ao:=aA2 ao;have hx:=au.get x;rw[cR (i,x) aD9] at hx;obtain⟨us,g1,g2,cL⟩:=Ka fC hx;have cr:=cf.length _ _ g2;have cv:=cf.length _ _ aB
    obtain⟨sK,cl,cY,ek⟩:=Kh au gX bF _ l' (aE.take d++us++aE.drop (d+us.length)) (fun p ag=>cR p (by simp[ag])) h (cf.splice aB g2) (fun u aZ=>by
     simp only[av9] at aZ;rcases aZ with(aZ |aZ) |aZ
     .exact E u (List.mem_of_mem_take aZ)
     .exact cL u aZ
     .exact E u (List.mem_of_mem_drop aZ))
    refine⟨sK,?_,cY,ek⟩;rw[<-cl];simp only[au9,Instr.fill,gX i d n H,g1];have hf:=aad us aE d aD7;rw[mu aF5]
    congr 1
    rw[<-hf,<-Array.foldl_toList,Array.toList_zipIdx]
   .cases h
  .cases h
def aae {fs:List Field} {l:aK0} (h:rx P fs l=true):fs.mapM (fun f=>(P.info? f.type).map fun i=>(f.offset,i.size))=some l:=by
 induction fs generalizing l with
 |nil=>cases l with
  |nil=>rfl
  |cons _ _=>simp[rx] at h
 |cons f fs bk=>cases l with
  |nil=>simp[rx] at h
  |cons p l=>
   obtain⟨d,n⟩:=p;simp only[rx,as8] at h;obtain⟨⟨⟨E,G⟩,_⟩,aS⟩:=h
   split at G
   .rename_i i hi;have G:=at8 G;have E:=at8 E;simp[List.mapM_cons,hi,bk aS,E,G]
   .cases G
def aaf (bl:d6 P aQ) {T:aI3} {bF:Array (Nat×Operand)} (ai:o.op= .build T bF) (h:match aQ.find T with
  |some ti=>match ti.kd,wH K (fun f=>ti.mU[f]?) bF.toList ti.zero with
   | .st,some l=>pD l fun l=>k (.c (.agg l)) bC
   |_,_=>False
  |none=>False):cM P N ids o K B k:=by
 split at h
 .rename_i ti gW;obtain⟨i,d,bu⟩:=bl.at_ gW;obtain⟨aH,aM,o4⟩:=bu.zero
  split at h
  .rename_i l Z al;rw[Ac] at h;refine cM.of h <| bx.val fun K' B' E G C ρ F a w ak au=>?_
   obtain⟨kS,rA⟩:=wL (ρ:=ρ) (I:=bZ C B' F w) (w:=w) _ _ o4;obtain⟨sK,fU,gV,f3⟩:=Kh (K:=K) au (mU:=fun f=>ti.mU[f]?) (place:=fun f=>ti.mU[f]?) (fun i d n hi=>hi) bF.toList _ _ _ (fun p ag=>E p.2 (by rw[ai];simp only[Op.operands];simpa using⟨p.1,by simpa using ag⟩)) al kS rA;refine⟨.agg (List.toArray sK),?_,sK,rfl,gV⟩
   have aag:P.built T (bF.toList.map fun p=>(p.1,a.eval p.2))=some (List.toArray sK):=by
    unfold Program.built;rw[bu.jK,bu.oc];obtain⟨fs,_,tZ⟩:=bu.st Z;have:=aae (bu.mU fs tZ);subst tZ;simp only[aM,this];simpa using fU
   unfold execOp;simp only[ai,aw3,run_build w T _ _ (show P.built T ((bF.map fun p=>(p.1,a.eval p.2)).toList)=_ by simpa using aag),au6];rfl
  .exact h.elim
 .exact h.elim
end
end
section
section
variable {P:aI0} {aQ:df} {N:Nat} {ids:aH4} {o:Oper} {K:aW} {B:ay} {k:aN->fk->Prop}
def oe (bl:d6 P aQ) {T e:Nat} {te:b8} (h:elemOf aQ T=some (e,te)):P.underlying T=some (.slice e)/\ ∃i d,mq P e te i d:=by
 unfold elemOf at h
 split at h
 .rename_i ti gW
  split at h
  .rename_i cc Z
   split at h
   .rename_i asj wM;injection h with h
    injection h with E G
    subst E G;obtain⟨_,_,bu⟩:=bl.at_ gW;exact⟨bu.ci Z,bl.at_ wM⟩
   .cases h
  .cases h
 .cases h
def FW (bl:d6 P aQ) {T:Nat} (h:yh aQ T=true):P.underlying T=some .string:=by
 unfold yh at h
 split at h
 .rename_i ti gW
  split at h
  .rename_i Z;obtain⟨_,_,bu⟩:=bl.at_ gW;exact bu.str Z
  .cases h
 .cases h
def ve (bl:d6 P aQ) {T:Nat} (h:pE aQ T=true):P.underlying T=some (.int .u8)/\ ∃ti i d,mq P T ti i d/\ti.zero=[.d (.int .u8 0)]/\ti.size=1/\ti.bytes=1:=by
 unfold pE at h
 split at h
 .rename_i ti gW
  split at h
  .rename_i Z aM aw O;obtain⟨i,d,bu⟩:=bl.at_ gW;exact⟨bu.int Z,ti,i,d,bu,aM,aw,O⟩
  .cases h
 .cases h
def sL (n:Nat) (l:aH7):List Value:=match n with
 |0=>[]
 |n+1=>l++sL n l
def aah (n:Nat) (l:aH7):(sL n l).length=n*l.length:=by
 induction n with
 |zero=>simp[sL]
 |succ n bk=>simp[sL,bk,aA6,Nat.add_comm]
def aai (n:Nat) (l:aH7): ∀j,j < n*l.length->(sL n l)[j]? =l[j % l.length]? :=by
 induction n with
 |zero=>intro j V;simp at V
 |succ n bk=>
  intro j V;unfold sL
  by_cases h:j < l.length
  .rw[av8 h,Nat.mod_eq_of_lt h]
  .rw[aw4 aD7,bk _ (by rw[aA6] at V;omega),Nat.mod_eq_sub_mod (a:=j) aD7]
def aaj {ρ:Nat->bp} {I:Nat->Prop} {w:aH9} (n:Nat) {l:List bA} {aE:aH7} (h:cf ρ I w l aE):cf ρ I w (Fy n l) (sL n aE):=by
 induction n with
 |zero=>rfl
 |succ n bk=>exact cf.u' _ _ _ _ h bk
def aak {n:Nat} {l:aH7} {v:aI8} (h:v∈sL n l):v∈l:=by
 induction n with
 |zero=>simp[sL] at h
 |succ n bk=>exact(av9.1 h).elim id bk
def aal (aH:aJ6) (n:Nat) (aM:0 < aH.size):(Array.range (n*aH.size)).map (aH[· % aH.size]!)=(sL n aH.toList).toArray:=by
 apply Array.ext';simp only[Array.toList_map,List.toList_toArray];apply aB2;intro j
 by_cases V:j < n*aH.size
 .rw[aai n aH.toList j aF8];simp only[Array.length_toList];have aC:j % aH.size < aH.size:=Nat.mod_lt _ aM;simp[V,aC]
 .rw[aA3 aF5,aA3 (by rw[aah];simp;omega)]
def aam {w:aH9} {l:aH7} {e:aI3} {j:Nat} {v:aI8} (h:l[j]? =some v):(w.alloc (.cells (List.toArray l) e)).cell? ⟨w.heap.size,j,none⟩=some v:=
 o1 (T:=e) (heap_alloc_new w _) h
def aan {I:Nat->Prop} {w:aH9} {u:bz} {xs:List (aa u)} {cs:aH7} {e:aI3} {cap:Nat} (aj:hC I (w.alloc (.cells (List.toArray cs) e)) u xs cs) (a7:I w.heap.size) (J:xs.length<=cap) (aC:cap<=maxLen):
  cy I (w.alloc (.cells (List.toArray cs) e)) (.ci u) xs (fun _=>some (.slice (some ⟨w.heap.size,0,none⟩) xs.length cap)):=
 ⟨_,cap,rfl,J,aC,fun _=>⟨_,0,rfl,a7,fun i x hx=>cy.mono (cm.refl _ _) u x _ _ (fun j v V=>by
  simp only[ax6];exact aam V) (aj i x hx)⟩⟩
def FX (w:aH9) (e s n:Nat) (cs:aH7) (al:cs.length=n*s) (aC:n<=maxLen):(w.alloc (.cells (List.toArray cs) e)).ownsRow 0 e s (.slice (some ⟨w.heap.size,0,none⟩) n n) n cs:=
 ⟨al,.inr ⟨_,n,_,rfl,at6 _,heap_alloc_new w _,at0 _,aC,by simpa using al,by simp[<-al]⟩⟩
def aao (bl:d6 P aQ) {T:aI3} {bF:Array (Nat×Operand)} (ai:o.op= .buildSlice T 0 bF) (h:match elemOf aQ T,o.dst with
  |some (e,te),some d=>match te.u with
   |some u=>g7 ids K B d=true/\k (.c (.one (.own d))) ⟨[],[d],[(d,some (.row e u []))]⟩
   |none=>False
  |_,_=>False) (l3:bF.toList=[]):cM P N ids o K B k:=by
 split at h
 .rename_i e te d U H;obtain⟨aZ,c9,ds,bu⟩:=oe bl U
  split at h
  .rename_i u wM;refine cM.ba h.2 h.1 <| bx.make (fun d h=>Aq h) fun K' B' E G C ρ F a w ak au hn=>?_
   have aap:bF= #[]:=Array.toList_eq_nil_iff.1 l3;refine⟨.slice (some ⟨w.heap.size,0,none⟩) 0 0,w.alloc (.cells #[] e),⟨w.heap.size,some ⟨w.heap.size,0,none⟩,0,0⟩,fun b=>b=w.heap.size,?_,wD w _,fun b O=>by subst O;exact⟨at0 _,aD9⟩,fun I U O=>⟨⟨?_,?_,[],?_,hC.nil u⟩,?_⟩⟩
   .subst aap;simp[execOp,ai,Instr.buildSlice,run_underlying aZ,sizeOf,typeInfo,bu.jK,Instr.fill,newRow];rw[show(Array.range 0)= #[] from rfl];simp
   .intro b;simp[bp.eS,Value.ownBlock,eq_comm]
   .intro b O;simp[bp.eS,Value.ownBlock] at O;exact O.symm
   .exact FX w e (aR u) 0 [] aD9 aD8
   .simp only[cx,gC,dW,dB,bp.eS]
  .exact h.elim
 .exact h.elim
def aaq (bl:d6 P aQ) {T n:Nat} {bF:Array (Nat×Operand)} (ai:o.op= .buildSlice T n bF) (yo:n≠0) (h:match elemOf aQ T with
  |some (_,te)=>match te.u with
   |some u=>match Nat.ble (n*te.size) 1000,wH K (fun i=>some (i*te.size,te.size)) bF.toList (Fy n te.zero) with
    |true,some l=>match yd u n l with
     |some (xs,none)=>k (.c (.one (.d (.b' u xs)))) bC
     |some (xs,some p)=>p/\k (.c (.one (.d (.b' u xs)))) bC
     |none=>n=1/\ ∃y:aa u,(oV u y/\l=gw u y 0 (aR u))/\k (.c (.one (.d (.b' u [y])))) bC
    |_,_=>False
   |none=>False
  |none=>False):cM P N ids o K B k:=by
 split at h
 .rename_i e te U;obtain⟨aZ,c9,ds,bu⟩:=oe bl U;obtain⟨aH,aM,o4⟩:=bu.zero
  split at h
  .rename_i u wM
   split at h
   .rename_i l gD al;have gD:=aA2 gD
    have sM: ∀xs:List (aa u),(∀(ρ:Nat->bp) (I:Nat->Prop) (w:aH9) (aE:aH7),cf ρ I w l aE->xs.length=n/\aE.length=n*aR u/\hC I w u xs aE)->bx P N ids o K B (.c (.one (.d (.b' u xs)))) bC:=fun xs gY=>bx.new fun K' B' E G C ρ F a w ak au=>by
     obtain⟨kS,rA⟩:=wL (ρ:=ρ) (I:=bZ C B' F w) (w:=w) _ _ o4
     have rl:aH.cells.size=c9.size:=by
      have E:=cf.length _ _ kS;simp at E;rw[E,bu.J8,bu.size]
     have lh:0 < c9.size:=by have:=bu.pos;have:=bu.size;omega
     have sN:aR u=c9.size:=(bu.u u wM).trans bu.size.symm
     obtain⟨aE,fU,gV,f3⟩:=Kh (K:=K) au (mU:=fun i=>some (i*te.size,te.size)) (place:=fun i=>some (i*c9.size,c9.size)) (fun i d n hi=>by rw[bu.size];exact hi) bF.toList _ _ (sL n aH.cells.toList)
      (fun p ag=>E p.2 (by rw[ai];simp only[Op.operands];simpa using⟨p.1,by simpa using ag⟩)) al (aaj n kS) (fun v aB=>rA v (aak aB))
     obtain⟨g9,ip,og⟩:=gY ρ _ w aE gV
     have dK:=run_buildSlice (P:=P) w T e n (bF.map fun p=>(p.1,a.eval p.2)) (List.toArray aE) c9 aH aZ bu.jK aM (by rw[bu.size];omega)
      (by rw[Nat.mul_eq_zero];omega) (by rw[<-rl,aal aH.cells n aD7,rl];simpa using fU)
     refine⟨.slice (some ⟨w.heap.size,0,none⟩) n n,w.alloc (.cells (List.toArray aE) e),?_,wD w (.cells (List.toArray aE) e),fun I U a7=>?_⟩
     .unfold execOp;simp only[ai,aw3,dK,au6];rfl
     .have:=aan (e:=e) (cap:=n) (hC.mono (U) og) (a7 _ (at0 _) aD9) aD7 (by simp only[maxLen];have:=Nat.le_mul_of_pos_right n (show 0 < te.size by have:=bu.pos;omega);omega);rw[g9] at this;exact this
    split at h
    .rename_i xs H
     exact cM.of h <| sM xs fun ρ I w aE aB=>by
      obtain⟨g9,ip,og,_⟩:=Kd u n l xs none H trivial aE aB;exact⟨g9,ip,og⟩
    .rename_i xs p H
     exact cM.of h.2 <| sM xs fun ρ I w aE aB=>by
      obtain⟨g9,ip,og,_⟩:=Kd u n l xs (some p) H h.1 aE aB;exact⟨g9,ip,og⟩
    .obtain⟨hn,y,⟨hw,fG⟩,h⟩:=h;subst hn;refine cM.of h <| sM [y] fun ρ I w aE aB=>?_
     subst fG;refine⟨rfl,by rw[cf.length _ _ aB,tX,Nat.one_mul],fun i x hx=>?_⟩
     match i with
     |0=>
      simp only[au4,at5] at hx;subst hx;refine cy.mono (cm.refl _ _) u y _ _ (fun j v V=>?_) (CR hw aB);rw[Nat.zero_mul,ax6];exact V
     |i+1=>simp at hx
   .exact h.elim
  .exact h.elim
 .exact h.elim
end
end
section
section
variable {P:aI0} {aQ:df} {N:Nat} {ids:aH4} {o:Oper} {K:aW} {B:ay} {k:aN->fk->Prop}
def QH {ev:Operand->Value} {T yp:aI3} {x i:aI2} {b q n c s:Nat} {w:aH9} {m:Int} {c9:aJ3} (ai:o.op= .indexAddr T x i) (hx:ev x= .slice (some ⟨b,q,none⟩) n c) (hi:ev i= .int .i64 m) (aZ:P.underlying T=some (.slice yp)) (CD:P.info? yp=some c9) (aw:c9.size=s)
  (ar:0<=m) (Z:m.toNat < n):(execOp ev o).run P w= .ok (.value (.pointer (some ⟨b,q+m.toNat*s,none⟩))) w:=by
 subst aw;have E:m < (n:Int):=aE5
 simp[execOp,ai,hx,hi,Instr.indexAt,asIntOf,run_underlying aZ,ar,E,sizeOf,typeInfo,CD,qo]
def aar (bl:d6 P aQ) {T:aI3} {x i:aI2} (ai:o.op= .indexAddr T x i) (h:match elemOf aQ T,a1 K i with
  |some (_,te),.c (.one (.d (.int .i64 n)))=>match a1 K x with
   | .c (.one (.d (.b' u xs)))=>match Nat.beq te.size (aR u) with
    |true=>0<=n/\ ∃y,eR xs n.toNat=some y/\k (.c (.one (.el u y 0))) bC
    |false=>False
   | .c (.one (.own c))=>match ae B c with
    |some (.row _ u xs)=>match Nat.beq te.size (aR u) with
     |true=>(0<=n/\n < xs.length)/\k (.c (.one (.ga c (aR u) n.toNat 0))) ⟨[c],[],[]⟩
     |false=>False
    |_=>False
   |_=>False
  |_,_=>False):cM P N ids o K B k:=by
 have m1:x∈o.op.operands:=aE4
 have m2:i∈o.op.operands:=aE4
 split at h
 .rename_i e te n U hi;obtain⟨aZ,c9,ds,bu⟩:=oe bl U
  split at h
  .rename_i u xs hx
   split at h
   .rename_i aw;have aw:=at8 aw;obtain⟨ar,y,aD,h⟩:=h;refine cM.of h <| bx.two hx hi m1 m2 fun K' ρ I a w au af ao=>?_
    obtain⟨A,cap,br,c0,ft,hl⟩:=au.b' af;injection br with br
    have bv:=CF aD;obtain⟨b,q,rfl,a7,H⟩:=hl aD7;refine⟨_,QH ai br (au.int ao) aZ bu.jK (bu.size.trans aw) ar bv,b,q+n.toNat*aR u,by rw[aA0],a7,?_⟩;refine cy.mono (cm.refl _ _) u y _ _ (fun j v V=>?_) (H _ y aD);rw[<-V]
    congr 2
    omega
   .exact h.elim
  .rename_i c hx
   split at h
   .rename_i cc u xs al
    split at h
    .rename_i aw;have aw:=at8 aw;obtain⟨⟨ar,E⟩,h⟩:=h;refine cM.of h <| bx.val fun K' B' g1 g2 C ρ F a w ak au=>?_
     obtain⟨bg,j7,cs,dV,_⟩:=ak.holds c _ ((g2 c aD9).trans al);have dq:=au.own ((g1 x m1).trans hx);rcases dV.2 with⟨_,G⟩ |⟨g,cap,di,aB,_⟩
     .omega
     .have O:=j7 g (by rw[aB];rfl);refine⟨_,QH ai (dq.trans aB) (au.int ((g1 i m2).trans hi)) aZ bu.jK (bu.size.trans aw) ar aD7,?_⟩;simp only[cx,gC,dW];rw[<-O,ax6,aA0]
    .exact h.elim
   .exact h.elim
  .exact h.elim
 .exact h.elim
def aas (bl:d6 P aQ) {T:aI3} {x i:aI2} (ai:o.op= .index T x i) (h:match yh aQ T,a1 K x,a1 K i with
  |true,.c (.one (.d (.str s))),.c (.one (.d (.int .i64 n)))=>0<=n/\ ∃y,eR s n.toNat=some y/\k (.c (.one (.d (.int .u8 (UInt8.toNat y:Int))))) bC
  |_,_,_=>False):cM P N ids o K B k:=by
 have m1:x∈o.op.operands:=aE4
 have m2:i∈o.op.operands:=aE4
 split at h
 .rename_i s n bR hx hi;obtain⟨ar,y,aD,h⟩:=h;have aZ:=FW bl bR;refine cM.of h <| bx.two hx hi m1 m2 fun K' ρ I a w au af ao=>⟨_,?_,rfl⟩
  have O:(⟨s.toArray⟩:aJ7)[n.toNat]? =some y:=by
   have bv:=CF aD;have:=(au0.1 aD).2;rw[getElem?_pos (⟨s.toArray⟩:aJ7) n.toNat (by rw[u9];exact bv)];simp only[at5];rw[<-this];rfl
  simp[execOp,ai,au.str af,au.int ao,Instr.index,asIntOf,run_underlying aZ,ar,O]
 .exact h.elim
def FY {K':aW} {ρ:Nat->bp} {I:Nat->Prop} {a:Act} {w:aH9} (au:eo K' ρ I a w) {n cap:Nat} {CV:Bool} {lo hi:Option Operand} {l h:Nat} {p:Prop} (O:yj n (lo.map (a1 K)) (hi.map (a1 K))=some (l,h,p)) (ag:p) (J:n<=cap)
  (al: ∀x,lo=some x->a1 K' x=a1 K x) (bd: ∀x,hi=some x->a1 K' x=a1 K x):
  (Instr.sliceBounds CV n cap (lo.map a.eval) (hi.map a.eval) none).run P w= .ok (l,h,cap) w/\l<=h/\h<=n:=by
 unfold yj at O
 split at O
 .rename_i j E G
  cases lo with
  |some x=>simp at E
  |none=>
   cases hi with
   |none=>simp at G
   |some y=>
    simp only[az3,at5] at G;simp only[at5,az0] at O;obtain⟨rfl,rfl,rfl⟩:=O;have aD:=au.int ((bd y rfl).trans G);have q:j<=(cap:Int):=aE5
    refine⟨?_,aD7,aD7⟩;simp[Instr.sliceBounds,Instr.sliceBound,asIntOf,aD,ag.1,q]
 .rename_i i E G
  cases lo with
  |none=>simp at E
  |some x=>
   cases hi with
   |some y=>simp at G
   |none=>
    simp only[az3,at5] at E;simp only[at5,az0] at O;obtain⟨rfl,rfl,rfl⟩:=O;have hx:=au.int ((al x rfl).trans E);refine⟨?_,aD7,at0 _⟩;simp[Instr.sliceBounds,Instr.sliceBound,asIntOf,hx,ag.1,ag.2]
 .rename_i i j E G
  cases lo with
  |none=>simp at E
  |some x=>
   cases hi with
   |none=>simp at G
   |some y=>
    simp only[az3,at5] at E G;simp only[at5,az0] at O;obtain⟨rfl,rfl,rfl⟩:=O;have hx:=au.int ((al x rfl).trans E);have aD:=au.int ((bd y rfl).trans G);have Ki:0<=j:=aE5
    have q:j<=(cap:Int):=aE5
    have cr:i<=((j.toNat:Nat):Int):=aE5
    refine⟨?_,aD7,aD7⟩;simp[Instr.sliceBounds,Instr.sliceBound,asIntOf,hx,aD,ag.1,Ki,q,ag.2.1];intro bv;omega
 .rename_i E G
  cases lo with
  |some x=>simp at E
  |none=>
   cases hi with
   |some y=>simp at G
   |none=>
    simp only[at5,az0] at O;obtain⟨rfl,rfl,rfl⟩:=O;refine⟨?_,at6 _,at0 _⟩;simp[Instr.sliceBounds]
 .cases O
def aat {I:Nat->Prop} {w:aH9} {u:bz} {xs:List (aa u)} {A:Option Addr} {cap l h:Nat} (hx:cy I w (.ci u) xs (fun _=>some (.slice A xs.length cap))) (al:l<=h) (bd:h<=xs.length):
  cy I w (.ci u) ((xs.take h).drop l) (fun _=>some (.slice (if cap=l then A else A.map (·.add (l*aR u))) (h - l) (cap - l))):=by
 obtain⟨A',ask,e,E,G,ah⟩:=hx;injection e with e
 injection e with af ao br
 subst af br;have bW:List.length ((xs.take h).drop l)=h - l:=by rw[ax8,at9];omega
 refine⟨_,_,by rw[bW],by rw[bW];omega,aD7,fun lh=>?_⟩;rw[bW] at lh;obtain⟨b,q,rfl,a7,H⟩:=ah aD7;refine⟨b,q+l*aR u,by rw[mu aD7,az3,qo],a7,fun i x hi=>?_⟩
 have FZ:eR (α:=aa u) xs (l+i)=some x:=by
  unfold eR at hi⊢;rw[aC3,ay5] at hi
  split at hi
  .exact hi
  .cases hi
 refine cy.mono (cm.refl _ _) u x _ _ (fun j v V=>?_) (H _ x FZ);rw[<-V,Nat.add_mul]
 congr 2
 omega
def aau (bl:d6 P aQ) {T:aI3} {x:aI2} {lo hi:Option Operand} (ai:o.op= .slice T x lo hi none) (h:JS aQ T (a1 K x) (lo.map (a1 K)) (hi.map (a1 K)) k):cM P N ids o K B k:=by
 have m1:x∈o.op.operands:=aE4
 have m2: ∀y,lo=some y->y∈o.op.operands:=fun y aD=>by rw[ai];simp[Op.operands,aD]
 have m3: ∀y,hi=some y->y∈o.op.operands:=fun y aD=>by rw[ai];simp[Op.operands,aD]
 unfold JS at h
 split at h
 .rename_i s hx
  split at h
  .rename_i l bd p bR O;have aZ:=FW bl bR;refine cM.of h.2 <| bx.val fun K' B' E G C ρ F a w ak au=>⟨_,?_,rfl⟩
   have dq:=au.str ((E x m1).trans hx);obtain⟨cr,cv,dm⟩:=FY (P:=P) au (CV:=false) O h.1 (at0 _) (fun y aD=>E y (m2 y aD)) (fun y aD=>E y (m3 y aD));rw[<-u9 s] at cr
   have U:(⟨s.toArray⟩:aJ7).extract l bd=⟨((s.take bd).drop l).toArray⟩:=by
    have e:=Lib.extract_data ⟨s.toArray⟩ l bd
    cases aM:(⟨s.toArray⟩:aJ7).extract l bd with
    |mk tW=>
     rw[aM] at e;simp only at e
     congr 1
     rw[<-Array.toArray_toList (xs:=tW),e,List.drop_take]
   rw[<-U];simp only[execOp,ai,aw3,Instr.sliceAt,Instr.slice,run_underlying aZ,au6,dq,Option.map_none];simp only[Option.isSome_none,Bool.false_eq_true,if_false,aw3,ax1,au6,cr]
  .exact h.elim
 .rename_i u xs hx
  split at h
  .rename_i e te l bd p U O;obtain⟨aZ,c9,ds,bu⟩:=oe bl U
   split at h
   .rename_i aw;have aw:=at8 aw;refine cM.of h.2 <| bx.val fun K' B' E G C ρ F a w ak au=>?_
    have H:=au.b' ((E x m1).trans hx);have c4:=H;obtain⟨A,cap,br,c0,ft,hl⟩:=c4;injection br with br
    rw[br] at H;obtain⟨cr,cv,dm⟩:=FY (P:=P) (w:=w) au (CV:=true) O h.1 c0 (fun y aD=>E y (m2 y aD)) (fun y aD=>E y (m3 y aD));refine⟨_,?_,aat H cv dm⟩;have aM:(sizeOf e).run P w= .ok (aR u) w:=by simp[sizeOf,typeInfo,bu.jK,bu.size,aw]
    simp only[execOp,ai,aw3,Instr.sliceAt,Instr.slice,run_underlying aZ,au6,br,Option.map_none,cr,aM,ax1]
   .exact h.elim
  .exact h.elim
 .exact h.elim
def QI {I:Nat->Prop} {w:aH9} {s:aH3} {v:aI8} (h:cy I w (.ci .u8) s (fun _=>some v)) (a7: ∀b,I b->b < w.heap.size): ∃A c,v= .slice A s.length c/\pC I w (.slice A s.length c) s:=by
 obtain⟨gK,E,G,ah⟩:=QA h a7;have t1:=E;obtain⟨al,A,c,rfl,_⟩:=E
 have e:gK=s.map gu:=by
  apply aB2;intro i;rw[av1]
  cases aw:s[i]? with
  |none=>
   have:=List.getElem?_eq_none_iff.1 aw;rw[aA3 (by rw[al];simp[aR];exact this)];rfl
  |some x=>
   have:=G i x aw;have this:gK[i*aR .u8+0]? =some (.int .u8 (UInt8.toNat x:Int)):=this;simpa[aR,gu] using this
 subst e;exact⟨A,c,rfl,t1⟩
def aav (bl:d6 P aQ) {S T:aI3} {x:aI2} (ai:o.op= .convert S T x) (h:JR aQ S T (a1 K x) B k):cM P N ids o K B k:=by
 have m1:x∈o.op.operands:=aE4
 unfold JR at h
 split at h
 .rename_i Qc ti aw cq;obtain⟨i1,g9,Ar⟩:=bl.at_ aw;obtain⟨i2,ip,t2⟩:=bl.at_ cq
  split at h
  .rename_i i j Qy n cl cY hx
   split at h
   .rename_i V _;have V:=ob V;subst V;refine cM.of h <| bx.one hx m1 fun K' ρ I a w au af=>⟨_,?_,rfl⟩
    have aB:=au.int af;have hw:IntKind.u8.wrap n=n % 256:=by simp[IntKind.wrap,IntKind.bits,IntKind.signed]
    simp[execOp,ai,aB,convert,run_underlying (Ar.int cl),run_underlying (t2.int cY),Conv.intToInt,hw]
   .have h:=yf h;refine cM.of h.2 <| bx.one hx m1 fun K' ρ I a w au af=>⟨_,?_,rfl⟩
    have aB:=au.int af;simp[execOp,ai,aB,convert,run_underlying (Ar.int cl),run_underlying (t2.int cY),Conv.intToInt,Aj h.1]
  .rename_i e s cl cY hx
   split at h
   .rename_i aZ;obtain⟨rB,_⟩:=ve bl aZ;refine cM.of h.2 <| bx.new fun K' B' E G C ρ F a w ak au=>?_
    have aB:=au.str ((E x m1).trans hx);obtain⟨cap,cJ,dK,O,fO⟩:=Zp (P:=P) w S T e ⟨s.toArray⟩ (Ar.str cl) (t2.ci cY) rB (by rw[u9];exact h.1);rw[u9] at dK O;refine⟨.slice (some ⟨w.heap.size,0,none⟩) s.length cap,cJ,by simp only[execOp,ai,aw3,aB,dK,au6,ax1],fO,fun I U a7=>?_⟩;obtain⟨al,A,c,af,ao,br,c0⟩:=O;injection af with af lB aaw
    subst af aaw;have jM:s.length<=cap:=by simpa using ao
    refine⟨_,cap,rfl,jM,br,fun lh=>?_⟩;have aax:0 < s.length:=lh;obtain⟨b,q,As,rk,bv,J⟩:=c0 (by simpa using aax);refine⟨b,q,As,a7 b rk bv,fun i y aD=>?_⟩
    have aC:(List.map gu s)[i]? =some (gu y):=by
     rw[av1];exact at2 (Option.map gu) aD
    show cJ.cell? ⟨b,q+(i*1+0),none⟩=some (gu y);rw[Nat.mul_one,aA0];exact J i _ aC
   .exact h.elim
  .rename_i e s cl cY hx
   split at h
   .rename_i aZ;obtain⟨rB,_⟩:=ve bl aZ;refine cM.of h <| bx.val fun K' B' E G C ρ F a w ak au=>⟨_,?_,rfl⟩
    obtain⟨A,c,aB,O⟩:=QI (au.b' ((E x m1).trans hx)) (fun b O=>O.1);simp only[execOp,ai,aw3,aB,Js O S T e (Ar.ci cl) rB (t2.str cY),au6,ax1]
   .exact h.elim
  .rename_i e cl cY hx
   split at h
   .rename_i aZ;obtain⟨rB,_⟩:=ve bl aZ;refine cM.of h <| bx.one hx m1 fun K' ρ I a w au af=>⟨_,?_,rfl⟩
    have aB:=au.dC af;simp only[execOp,ai,aw3,aB,run_convert_bytes_nil (P:=P) (w:=w) S e (Ar.ci cl) rB 0 0 T (t2.str cY),au6,ax1];rfl
   .exact h.elim
  .rename_i e c cl cY hx
   split at h
   .rename_i cc s al aZ;obtain⟨rB,_⟩:=ve bl aZ;refine cM.of h <| bx.val fun K' B' E G C ρ F a w ak au=>⟨_,?_,rfl⟩
    have dV:=ak.holds c _ ((G c aD9).trans al);have H:=CT dV (I':=fun b=>b < w.heap.size) (fun b O=>O.1) (fun b O=>(ak.own c _ ((G c aD9).trans al) b O).1);obtain⟨A,mr,aB,O⟩:=QI H (fun b O=>O);have dq:=au.own ((E x m1).trans hx);simp only[execOp,ai,aw3,dq,aB,Js O S T e (Ar.ci cl) rB (t2.str cY),au6,ax1]
   .exact h.elim
  .exact h.elim
 .exact h.elim
def aay (bl:d6 P aQ) {T:aI3} {x:aI2} {lo hi:Option Operand} {c:Nat} (ai:o.op= .slice T x lo hi none) (hx:a1 K x= .c (.one (.own c))) (h:match elemOf aQ T,ae B c with
   |some (_,te),some (.row _ u xs)=>match yj xs.length (lo.map (a1 K)) (hi.map (a1 K)),Nat.beq te.size (aR u) with
    |some (l,h,p),true=>p/\k (.c (.one (.os c (aR u) l (h - l)))) ⟨[c],[],[]⟩
    |_,_=>False
   |_,_=>False):cM P N ids o K B k:=by
 have m1:x∈o.op.operands:=aE4
 have m2: ∀y,lo=some y->y∈o.op.operands:=fun y aD=>by rw[ai];simp[Op.operands,aD]
 have m3: ∀y,hi=some y->y∈o.op.operands:=fun y aD=>by rw[ai];simp[Op.operands,aD]
 split at h
 .rename_i e te cc u xs U al;obtain⟨aZ,c9,ds,bu⟩:=oe bl U
  split at h
  .rename_i l bd p O aw;have aw:=at8 aw;refine cM.of h.2 <| bx.val fun K' B' E G C ρ F a w ak au=>?_
   have dq:=au.own ((E x m1).trans hx);obtain⟨_,_,cs,dV,_⟩:=ak.holds c _ ((G c aD9).trans al);obtain⟨_,A,cap,aB,hn,J,_⟩:=hS.tN dV;unfold bp.eS at aB dq;injection aB with af ao br
   rw[ao] at dq;obtain⟨cr,cv,dm⟩:=FY (P:=P) (w:=w) au (CV:=true) O h.1 (by rw[<-br] at hn;exact hn:xs.length<=(ρ c).cap) (fun y aD=>E y (m2 y aD)) (fun y aD=>E y (m3 y aD));refine⟨_,?_,rfl⟩;have aM:(sizeOf e).run P w= .ok (aR u) w:=by simp[sizeOf,typeInfo,bu.jK,bu.size,aw]
   simp only[execOp,ai,aw3,Instr.sliceAt,Instr.slice,run_underlying aZ,au6,dq,Option.map_none,cr,aM,ax1]
  .exact h.elim
 .exact h.elim
end
end
section
section
variable {P:aI0} {aQ:df} {N:Nat} {ids:aH4} {o:Oper} {K:aW} {B:ay} {k:aN->fk->Prop}
def aaz {c d:Nat} (h:aN.has d (.c (.one (.mp c)))=true):d=c:=(at8 h).symm
def F0 (bl:d6 P aQ) {T kt et:Nat} (h:yi aQ T=some (kt,et)):P.underlying T=some (.map kt et):=by
 unfold yi at h
 split at h
 .rename_i ti gW
  split at h
  .rename_i k e Z;obtain⟨_,_,bu⟩:=bl.at_ gW;injection h with h
   injection h with E G
   subst E G;have:=bu.kd;rw[Z] at this;rw[bu.oc]
   cases H:‹TypeDesc› <;>simp[H,tU] at this⊢
   exact this
  .cases h
 .cases h
def Kj (bl:d6 P aQ) {kt:Nat} {aF:bz} (h:yl aQ kt aF=true): ∃d,P.underlying kt=some d/\nv aF d=true:=by
 unfold yl at h
 split at h
 .rename_i ti gW;obtain⟨_,_,bu⟩:=bl.at_ gW
  split at h
  .rename_i k ec Z;have:=ob h;subst this;exact⟨_,bu.int Z,by simp[nv]⟩
  .rename_i Z;exact⟨_,bu.str Z,rfl⟩
  .cases h
 .cases h
def F1: ∀u:bz,oV u (cO u)
 | .int _=>trivial
 | .u8=>trivial
 | .bool=>trivial
 | .str=>trivial
 | .aL=>trivial
 | .da=>trivial
 | .fn=>trivial
 | .ci _=>trivial
 | .bV u v=>⟨F1 u,F1 v⟩
 | .arr n u=>⟨au2,fun x hx=>by
  have e:x=cO u:=List.eq_of_mem_replicate hx;rw[e];exact F1 u⟩
def aaA {ρ:Nat->bp} {I:Nat->Prop} {w:aH9} {s:bA} {x:D} {v:aI8} (h:FE s x=true) (aB:dW ρ I w s v):gL I w x v:=by
 unfold FE at h
 split at h
 .simp only[as8,aw0] at h;obtain⟨E,G⟩:=h;have:=ob E;subst this G;exact aB
 .exact aB
 .exact aB
 .exact aB
 .rename_i b c;have:b=c:=aE6
  subst this;exact aB
 .rw[show v=_ from aB];exact⟨none,0,rfl,at0 _,at6 _,fun h=>at1 h (Nat.lt_irrefl 0)⟩
 .cases h
def QJ: ∀{l m:List bA},iD l m=true->l.length=m.length
 | [],[],_=>rfl
 |s::l,.d x::m,h=>by
  simp only[iD,as8] at h;simp[QJ h.2]
 | [],_::_,h=>by simp[iD] at h
 |_::_,[],h=>by simp[iD] at h
 |_::_,.ptr _ _::_,h=>by simp[iD] at h
 |_::_,.own _::_,h=>by simp[iD] at h
 |_::_,.el _ _ _::_,h=>by simp[iD] at h
 |_::_,.ga _ _ _ _::_,h=>by simp[iD] at h
 |_::_,.os _ _ _ _::_,h=>by simp[iD] at h
 |_::_,.mp _::_,h=>by simp[iD] at h
 |_::_,.c2 _ _::_,h=>by simp[iD] at h
 |_::_,.dC::_,h=>by simp[iD] at h
 |_::_,.bK _::_,h=>by simp[iD] at h
 |_::_,.any::_,h=>by simp[iD] at h
def QK: ∀{l m:List bA},iD l m=true-> ∀(i:Nat) (y:bA),m[i]? =some y-> ∃s x,l[i]? =some s/\y= .d x/\FE s x=true
 | [],[],_,i,y,aD=>by simp at aD
 |s::l,.d x::m,h,0,y,aD=>by
  simp only[iD,as8] at h;simp only[au4,at5] at aD;exact⟨s,x,rfl,aD.symm,h.1⟩
 |s::l,.d x::m,h,i+1,y,aD=>by
  simp only[iD,as8] at h;simpa using QK h.2 i y (by simpa using aD)
 | [],_::_,h,_,_,_=>by simp[iD] at h
 |_::_,[],h,_,_,aD=>by simp at aD
 |_::_,.ptr _ _::_,h,_,_,_=>by simp[iD] at h
 |_::_,.own _::_,h,_,_,_=>by simp[iD] at h
 |_::_,.el _ _ _::_,h,_,_,_=>by simp[iD] at h
 |_::_,.ga _ _ _ _::_,h,_,_,_=>by simp[iD] at h
 |_::_,.os _ _ _ _::_,h,_,_,_=>by simp[iD] at h
 |_::_,.mp _::_,h,_,_,_=>by simp[iD] at h
 |_::_,.c2 _ _::_,h,_,_,_=>by simp[iD] at h
 |_::_,.dC::_,h,_,_,_=>by simp[iD] at h
 |_::_,.bK _::_,h,_,_,_=>by simp[iD] at h
 |_::_,.any::_,h,_,_,_=>by simp[iD] at h
def aaB (bl:d6 P aQ) {et:Nat} {aJ:bz} (h:FF aQ et aJ=true) {I:Nat->Prop} {w:aH9}: ∃aH,(zeroValue et).run P w= .ok aH w/\jn I w aJ (cO aJ) aH:=by
 unfold FF at h
 split at h
 .rename_i ti gW;obtain⟨i,d,bu⟩:=bl.at_ gW;simp only[as8,beq_iff_eq,ay9] at h;obtain⟨⟨E,G⟩,ah⟩:=h;obtain⟨aH,aM,o4⟩:=bu.zero;have H:=(wL (ρ:=fun _=>⟨0,none,0,0⟩) (I:=I) (w:=w) _ _ o4).1;have al:=cf.length _ _ H;have l4:ti.zero.length=aR aJ:=(QJ E).trans (tX aJ _ _ _)
  have aw:aH.cells.size=aR aJ:=by
   rw[<-l4,<-al];simp
  refine⟨aH,by simp[zeroValue,typeInfo,bu.jK,aM],aw,⟨fun ai=>?_,fun ai=>?_⟩,cy.mk _ _ _ (F1 aJ) fun j V=>?_⟩
  .refine bu.Ql aH aM ?_;rw[bu.row,G,ai];rfl
  .have:2<=aR aJ:=by
    rcases ah with ah |ah
    .rw[ai] at ah;cases ah
    .exact aA2 ah
   cases aH with
   |agg cs=>exact⟨cs,rfl⟩
   |_=>simp[Value.cells] at aw;omega
  .have aV:=An aJ (cO aJ) (aR aJ) 0 j V;rw[ax6] at aV;obtain⟨s,x,af,ao,br⟩:=QK E j _ aV;injection ao with ao
   obtain⟨v,c0,ft⟩:=cf.get _ _ H j s af;exact⟨v,c0,by rw[ao];exact aaA br ft⟩
 .cases h
def QL {ρ:Nat->bp} {I:Nat->Prop} {w:aH9} {u:bz} {x:aa u} {v:aI8} (ai:nt u=true) (h:jn I w u x v):dW ρ I w (.d (fB u x 0)) v:=by
 obtain⟨E,G,ah⟩:=h;have J:=G.1 ai;have lh:0 < aR u:=by rw[<-E,J];simp
 obtain⟨dA,af,ao⟩:=cy.cell u x _ 0 ah lh;rw[J] at af;simp at af;subst af;exact ao
def QM {ρ:Nat->bp} {I:Nat->Prop} {w:aH9} {u:bz} {x:aa u} {v:aI8} (ai:nt u=false) (h:jn I w u x v):gC ρ I w (.agg (gw u x 0 (aR u))) v:=by
 obtain⟨E,G,ah⟩:=h;obtain⟨cs,e⟩:=G.2 ai;subst e;obtain⟨aE,g1,g2⟩:=FT (ρ:=ρ) ah (aR u) 0 aD7;have al:=cf.length _ _ g1;rw[tX] at al
 have e:aE=cs.toList:=by
  apply aB2;intro j
  by_cases V:j < aE.length
  .obtain⟨v,aB⟩: ∃v,aE[j]? =some v:=⟨_,as7 V⟩;have:=g2 j v aB;rw[aB,<-this];simp[Value.cells]
  .rw[aA3 aD7,aA3 (by simp[Value.cells] at E;simp;omega)]
 subst e;exact⟨_,aD9,g1⟩
def F2 {ρ:Nat->bp} {I:Nat->Prop} {w:aH9} {u:bz} {x:aa u} {v:aI8} (h:jn I w u x v):gC ρ I w (Af u x) v:=by
 cases u with
 |bV u v=>exact QM rfl h
 |arr n u=>exact QM rfl h
 |_=>exact QL (ρ:=ρ) rfl h
def aaC {ρ:Nat->bp} {I:Nat->Prop} {w:aH9} {u:bz} {s:aN} {y:aa u} {p:Option Prop} (h:JW u s=some (y,p)) (ag:u2 p) {v:aI8} (aB:cx ρ I w s v):jn I w u y v:=by
 unfold JW at h
 split at h
 .rename_i dA y'
  split at h
  .rename_i sO _ ai;subst sO;injection h with h
   injection h with E G
   subst E G;obtain⟨aE,e,E,G⟩:=aB;subst e;exact⟨by simpa[Value.cells] using E,⟨fun e=>(by rw[ai] at e;cases e),fun _=>⟨_,rfl⟩⟩,by simpa[Value.cells,JB] using G⟩
  .cases h
 .rename_i s'
  split at h
  .rename_i y' ku ai H;injection h with h
   injection h with E G
   subst E G;obtain⟨od,tY,af,ao,br,c0,ft⟩:=Ao u ρ I w _ _ _ _ H ag [v] ⟨v,[],rfl,aB,rfl⟩;rw[show tY=[] from c0,av2] at af;subst af
   have J:v.cells= #[v]:=by
    have:=ft v aD9
    cases v <;>first |rfl |(simp[Value.oneCell'] at this)
   refine⟨by rw[J,<-ao];rfl,⟨fun _=>J,fun e=>(by rw[ai] at e;cases e)⟩,by rw[J];exact br⟩
  .cases h
 .rename_i l
  split at h
  .rename_i y' ku ai H;injection h with h
   injection h with E G
   subst E G;obtain⟨aE,e,aB⟩:=aB;subst e;obtain⟨od,tY,af,ao,br,c0,ft⟩:=Ao u ρ I w _ _ _ _ H ag aE aB;rw[show tY=[] from c0,av2] at af;subst af;exact⟨by simpa[Value.cells] using ao,⟨fun e=>(by rw[ai] at e;cases e),fun _=>⟨_,rfl⟩⟩,by simpa[Value.cells] using br⟩
  .cases h
 .cases h
def CW {ρ:Nat->bp} {I:Nat->Prop} {w:aH9} {aF:bz} {s:aN} {key:aa aF} (h:yk aF s=some key) {v:aI8} (aB:cx ρ I w s v):v=gM aF key:=by
 unfold yk at h
 split at h
 .split at h
  .rename_i e;have:=ob e;injection h with h
   subst this h;exact aB
  .cases h
 .injection h with h
  subst h;exact aB
 .cases h
def eo.mp {K':aW} {ρ:Nat->bp} {I:Nat->Prop} {a:Act} {w:aH9} {x:aI2} (au:eo K' ρ I a w) {c:Nat} (h:a1 K' x= .c (.one (.mp c))):a.eval x= .map (some (ρ c).bf):=au.ev h
def aaD (bl:d6 P aQ) {T:aI3} {x i:aI2} {ok:Bool} (ai:o.op= .lookup T x i ok) (h:JV aQ T (a1 K x) (a1 K i) ok B k):cM P N ids o K B k:=by
 have m1:x∈o.op.operands:=aE4
 have m2:i∈o.op.operands:=aE4
 unfold JV at h
 split at h
 .rename_i c hx
  split at h
  .rename_i aF aJ es al
   split at h
   .rename_i kt et key bR Z
    have sM: ∀(v:aN),(yl aQ kt aF&&FF aQ et aJ)=true->(∀(ρ:Nat->bp) (I:Nat->Prop) (w:aH9) (u:aI8),jn I w aJ ((bX es key).getD (cO aJ)) u->cx ρ I w v (if ok then .tuple #[u,.bool (bX es key).isSome] else u))->bx P N ids o K B v ⟨[c],[],[]⟩:=by
     intro v bu aB;simp only[as8] at bu;obtain⟨d,yq,lf⟩:=Kj bl bu.1;refine bx.val fun K' B' g1 g2 C ρ F a w ak au=>?_
     obtain⟨bg,bT,bY,O,aC,de⟩:=ak.holds c _ ((g2 c aD9).trans al);obtain⟨aH,aM,wF⟩:=aaB bl bu.2 (I:=bZ C B' F w) (w:=w);obtain⟨u,aj,aZ⟩:=P3 (P:=P) (F0 bl bR) yq lf O aC aM wF key ok;have af:=au.mp ((g1 x m1).trans hx);have ao:a.eval i=gM aF key:=CW Z (au.ev (g1 i m2));exact⟨_,by simp only[execOp,ai,aw3,af,ao,aj,au6,ax1],aB ρ _ w u aZ⟩
    split at h
    .rename_i bu;rw[Fq] at h;refine cM.of h (sM _ bu fun ρ I w u aZ=>?_);exact⟨[u,.bool (bX es key).isSome],rfl,u,_,rfl,F2 aZ,_,_,rfl,rfl,rfl⟩
    .rename_i bu;rw[Fq] at h;exact cM.of h (sM _ bu fun ρ I w u aZ=>F2 aZ)
    .exact h.elim
   .exact h.elim
  .exact h.elim
 .exact h.elim
def t6 {w:aH9} {b:Nat} {mY:Obj} {S:Nat->Prop} (au:S b):cU S w {w with heap:=w.heap.setIfInBounds b mY}:=
 ⟨rfl,rfl,rfl,aD9,fun j _ hn=>by simp only[];rw[az7 (fun e=>hn (by rw[<-e];exact au))]⟩
def aaE (bl:d6 P aQ) {T:aI3} {x i v:aI2} (ai:o.op= .mapUpdate T x i v) (h:JX aQ T (a1 K x) (a1 K i) (a1 K v) B k):cM P N ids o K B k:=by
 have m1:x∈o.op.operands:=aE4
 have m2:i∈o.op.operands:=aE4
 have m3:v∈o.op.operands:=aE4
 unfold JX at h
 split at h
 .rename_i c hx
  split at h
  .rename_i aF aJ es al
   split at h
   .rename_i kt et key bR Z
    have sM: ∀y:aa aJ,yl aQ kt aF=true->(∀(ρ:Nat->bp) (I:Nat->Prop) (w:aH9) (u:aI8),cx ρ I w (a1 K v) u->jn I w aJ y u)->bx P N ids o K B .undef ⟨[c],[],[(c,some (.map aF aJ (dp es key y)))]⟩:=fun y bu aB=>by
     obtain⟨d,yq,lf⟩:=Kj bl bu;refine bx.hT al fun K' B' g1 C ρ F a w ak au fG=>?_
     obtain⟨bg,bT,bY,O,aC,de⟩:=ak.holds c _ fG;have af:=au.mp ((g1 x m1).trans hx);have ao:a.eval i=gM aF key:=CW Z (au.ev (g1 i m2));have br:jn _ _ aJ y (a.eval v):=aB _ _ _ _ (au.ev (g1 v m3));obtain⟨eC,iM,aj,fV,o5⟩:=z8 (P:=P) (F0 bl bR) yq lf O aC de key br;have bv:=(aA8.1 O).1;refine⟨{w with heap:=w.heap.setIfInBounds (ρ c).bf (.map (List.toArray eC) iM)},by simp only[execOp,ai,aw3,af,ao,aj,au6,ax1],t6 ((bg _).2 rfl),fun I aY=>⟨bg,eC,iM,by simp[bv],fV.mono aY,o5⟩⟩
    split at h
    .rename_i y p bu aB;exact cM.of h.2 (sM y bu fun ρ I w u aZ=>aaC aB h.1 aZ)
    .rename_i bu _
     split at h
     .rename_i l aB vb;obtain⟨y,⟨hw,fG⟩,h⟩:=h;refine cM.of h (sM y bu fun ρ I w u aZ=>?_);rw[aB] at aZ;obtain⟨aE,e,H⟩:=aZ;subst e fG;exact⟨by simpa[Value.cells,tX] using cf.length _ _ H,⟨fun e=>(by rw[vb] at e;cases e),fun _=>⟨_,rfl⟩⟩,by simpa[Value.cells] using CR hw H⟩
     .exact h.elim
    .exact h.elim
   .exact h.elim
  .exact h.elim
 .exact h.elim
def bx.QN {c:Nat} {cB ch:a8} (J:ae B c=some cB)
  (h: ∀(K':aW) (B':ay),(∀x,x∈o.op.operands->a1 K' x=a1 K x)-> ∀(C:fc) (ρ:Nat->bp) (F:Nat->Nat->Prop) (a:Act) (w:aH9),Mem ids C B' ρ F w->eo K' ρ (bZ C B' F w) a w->ae B' c=some cB-> ∃w',(execOp a.eval o).run P w= .ok (.value (.tuple #[])) w'/\cU (F c) w w'/\
   (∀I,cm (bZ C B' F w) w I w'->Holds ρ I (F c) w' (ρ c) ch)):
  bx P N ids o K B (.b4 []) ⟨[c],[],[(c,some ch)]⟩:=by
 rintro K' B' E G - C a w ⟨hn,H,ρ,F,ak,au⟩ bv fN Q cR;have c3:ae B' c=some cB:=(G c aD9).trans J;obtain⟨w',hx,cF,c'⟩:=h K' B' E C ρ F a w ak au c3;obtain⟨bH,U⟩:=ak.hT c3 cF c';unfold Oper.wp;rw[hx,Oper.upon_value];exact cR _ _ ⟨kN.trans hn,kO.trans H,ρ,F,bH,(au.mono U fun _ _ _=>rfl).kP (fun e U=>by rw[hn];exact bv e U) ⟨[],rfl,rfl⟩⟩
def aaF (bl:d6 P aQ) {T ew:aI3} {x i:aI2} {c:Call} (ai:o.op= .call c) (eW:c.callee= .builtin .delete) (e3:c.args.toList=[x,i]) (li:c.argTypes.toList=[T,ew]) (h:JY aQ T (a1 K x) (a1 K i) B k):cM P N ids o K B k:=by
 have e6:c.args= #[x,i]:=ay4.1 e3;have iN:c.argTypes= #[T,ew]:=ay4.1 li;obtain⟨rC,args,ct⟩:=c;simp only at eW e6 iN;subst eW e6 iN;have m1:x∈o.op.operands:=aE8
 have m2:i∈o.op.operands:=aE8
 unfold JY at h
 split at h
 .rename_i c hx
  split at h
  .rename_i aF aJ es al
   split at h
   .rename_i kt et key bR Z
    split at h
    .rename_i bu;obtain⟨d,yq,lf⟩:=Kj bl bu;refine cM.of h <| bx.QN al fun K' B' g1 C ρ F a w ak au fG=>?_
     obtain⟨bg,bT,bY,O,aC,de⟩:=ak.holds c _ fG;have af:=au.mp ((g1 x m1).trans hx);have ao:a.eval i=gM aF key:=CW Z (au.ev (g1 i m2));obtain⟨eC,aj,fV,o5⟩:=P9 (P:=P) (ty:=o.type) (F0 bl bR) yq lf O aC de key ew;have bv:=(aA8.1 O).1;refine⟨{w with heap:=w.heap.setIfInBounds (ρ c).bf (.map (List.toArray eC) bY)},?_,t6 ((bg _).2 rfl),fun I aY=>⟨bg,eC,bY,by simp[bv],fV.mono aY,o5⟩⟩;simp[execOp,ai,resolve,invoke,builtin,af,ao,aj]
    .exact h.elim
   .exact h.elim
  .exact h.elim
 .exact h.elim
def mq.arr {T:Nat} {ti:b8} {i:aJ3} {d:aJ4} (h:mq P T ti i d) {n e:Nat} (Z:ti.kd= .arr n e):P.underlying T=some (.array n e):=by
 have:=h.kd;rw[Z] at this;rw[h.oc]
 cases d <;>simp[tU] at this⊢
 exact this
def aaG (bl:d6 P aQ) {T:aI3} {x:aI2} (ai:o.op= .sliceToArrayPointer T x) (h:J1 aQ T (a1 K x) k):cM P N ids o K B k:=by
 have m1:x∈o.op.operands:=aE4
 unfold J1 at h
 split at h
 .rename_i ti v xs gW hx;obtain⟨i,d,bu⟩:=bl.at_ gW
  split at h
  .rename_i n e Z;obtain⟨⟨ar,gD⟩,h⟩:=h;have aZ:=bu.arr Z;refine cM.of h <| bx.one hx m1 fun K' ρ I a w au af=>?_
   obtain⟨A,cap,br,c0,ft,hl⟩:=au.b' af;injection br with br
   obtain⟨b,q,rfl,a7,H⟩:=hl aD7;refine⟨.pointer (some ⟨b,q,none⟩),?_,b,q,rfl,a7,by simp;omega,fun i aH aM=>?_⟩
   .have: ¬List.length xs < n:=aE5
    simp[execOp,ai,br,Instr.arrayAt,run_underlying aZ,this]
   .have rD:eR (α:=aa v) xs i=some aH:=by
     unfold eR at aM⊢;rw[ay5] at aM
     split at aM
     .exact aM
     .cases aM
    exact H i aH rD
  .exact h.elim
 .exact h.elim
def aaH (bl:d6 P aQ) {T:aI3} {x:aI2} {c:Nat} (ai:o.op= .slice T x none none none) (hx:a1 K x= .c (.one (.ptr c 0))) (h:J0 aQ T c B k):cM P N ids o K B k:=by
 have m1:x∈o.op.operands:=aE4
 unfold J0 at h
 split at h
 .rename_i ti gW;obtain⟨i,d,bu⟩:=bl.at_ gW
  split at h
  .rename_i n e m v Z _;have aZ:=bu.arr Z
   split at h
   .rename_i te l hn wM al;simp only[as8,Nat.beq_eq,Nat.ble_eq,Nat.blt_eq] at hn;obtain⟨⟨_,kT⟩,yo⟩:=hn;obtain⟨ym,Kk,aaI⟩:=bl.at_ wM;obtain⟨ys,⟨hw,fG⟩,h⟩:=h;refine cM.of h ?_;rintro K' B' E G - C a w ⟨sP,tZ,ρ,F,ak,au⟩ bv fN Q cR;have Kl:ae B' c=some (.cells l):=(G c aD9).trans al;obtain⟨bg,aE,ew,O,H⟩:=ak.holds c _ Kl;have af:=au.ptr ((E x m1).trans hx);subst fG;have aaJ:=CR hw H;have a6:n≠0:=aE5
    have dK:(execOp a.eval o).run P w= .ok (.value (.slice (some ⟨(ρ c).bf,0,none⟩) n n)) w:=by
     simp[execOp,ai,af,Instr.sliceAt,run_underlying aZ,Instr.sureAddr,Instr.sliceBounds,sizeOf,typeInfo,aaI.jK,a6,qo]
    obtain⟨bH,aY⟩:=ak.step (B':=gT B' c) (ρ':=ρ) (F':=F) (w':=w) (fun d=>d=c) (fun _=>False) (cU.refl _ w) (fun d ch H a6=>by
      rw[hD,mu (fun e=>a6 e.symm)] at H;exact H) (fun _ _=>rfl) (fun _ _=>rfl) (fun _ _ h=>h) (fun _ h=>h.elim) (fun _ _ _ _ _ _ h=>h)
     (fun d ch H ak _=>by subst ak;rw[hD,vj rfl] at H;cases H)
     (fun d ch H ak=>by subst ak;rw[hD,vj rfl] at H;cases H)
     (fun d cZ ch ch' b H _ ak=>by subst ak;rw[hD,vj rfl] at H;cases H)
    have mZ:=(bg (ρ c).bf).2 rfl
    have a7:bZ C (gT B' c) F w (ρ c).bf:=by
     obtain⟨cr,cv⟩:=ak.own c _ Kl _ mZ;refine⟨cr,?_,fun d ch H c8=>?_⟩
     .rcases cv with cv |cv
      .exact .inr (.inl cv)
      .exact .inr (.inr cv)
     .rw[hD] at H
      split at H
      .cases H
      .rename_i a6;exact ak.fd c d _ ch _ Kl H a6 mZ c8
    unfold Oper.wp;rw[dK,Oper.upon_value];refine cR _ _ ⟨kN.trans sP,kO.trans tZ,ρ,F,bH,(au.mono aY fun _ _ _=>rfl).kP (fun e U=>by rw[sP];exact bv e U) ?_⟩;have bW:List.length ys=n:=hw.1;refine⟨_,n,by rw[bW],aD7,by simp only[maxLen];omega,fun _=>⟨_,0,rfl,a7,fun j aH aM=>?_⟩⟩;refine cy.mono aY v aH _ _ (fun q y a2=>?_) (aaJ.2 j aH aM);rw[ax6];exact o1 O a2
   .exact h.elim
  .exact h.elim
 .exact h.elim
def aaK (bl:d6 P aQ) {T:aI3} (ai:o.op= .makeMap T none) (h:JZ aQ T o.dst ids K B k):cM P N ids o K B k:=by
 unfold JZ at h
 split at h
 .rename_i kt et d bR H
  split at h
  .rename_i Qd ym asl asm
   split at h
   .rename_i aF aJ _ _;refine cM.ba h.2 h.1 <| bx.make (fun d h=>aaz h) fun K' B' g1 g2 C ρ F a w ak au hn=>?_
    refine⟨.map (some w.heap.size),w.alloc (.map #[] 0),⟨w.heap.size,none,0,0⟩,fun b=>b=w.heap.size,by simp only[execOp,ai,Option.map_none,aw3,ZF,au6,ax1],wD w _,fun b O=>by subst O;exact⟨at0 _,aD9⟩,fun I U O=>⟨⟨fun b=>Iff.rfl,[],0,Jt _ rfl,rfl,⟨aD9,fun e U=>by cases U⟩⟩,?_⟩⟩;simp only[cx,gC,dW,dB]
   .exact h.elim
  .exact h.elim
 .exact h.elim
end
end
section
section
variable {P:aI0} {aQ:df} {N:Nat} {ids:aH4} {o:Oper} {K:aW} {B:ay} {k:aN->fk->Prop}
def aaL {w:aH9} (t e:aI3) (cq:P.underlying t=some (.slice e)) {i:aJ3} (hi:P.info? e=some i) {aH:aI8} (aM:i.zero=some aH) (At:aH.cells= #[.int .u8 0]) (aw:i.size=1) (O:i.bytes=1) (n:Nat) (hn:n<=4294967296):
  (Instr.makeSlice t (.int .i64 (n:Int)) (.int .i64 (n:Int))).run P w= .ok (.slice (some ⟨w.heap.size,0,none⟩) n n) (w.alloc (.cells (List.replicate n (.int .u8 0)).toArray e)):=by
 have h:=run_make (P:=P) w t e i _ cq hi aM .i64 .i64 (n:Int) (n:Int) aD7 aD7 (by rw[O];omega) aD7;rw[h,aw,At];simp only[az8,Nat.mul_one]
 congr 3
 simp[madeCells];apply Array.ext
 .simp
 .intro i E G;simp[Nat.mod_one]
def QO {ti:b8} {T:Nat} {i:aJ3} {d:aJ4} (bu:mq P T ti i d) (aM:ti.zero=[.d (.int .u8 0)]): ∃aH,i.zero=some aH/\aH.cells= #[.int .u8 0]:=by
 obtain⟨aH,E,G⟩:=bu.zero;refine⟨aH,E,?_⟩;rw[aM] at G
 have:aH.cells.toList=[.int .u8 0]:=by
  match J:aH.cells.toList,G with
  | [v],G=>
   simp only[tV,Bool.and_true] at G;have:=(QE (ρ:=fun _=>⟨0,none,0,0⟩) (I:=fun _=>False) (w:=default) G).1;rw[show v=_ from this]
  | [],G=>simp[tV] at G
  |_::_::_,G=>simp[tV] at G
 exact ay4.1 this
def aaM (bl:d6 P aQ) {T:aI3} {x y:aI2} (ai:o.op= .makeSlice T x y) (h:match elemOf aQ T,a1 K x,a1 K y,o.dst with
  |some (e,te),.c (.one (.d (.int .i64 n))),.c (.one (.d (.int .i64 m))),some d=>match pE aQ e with
   |true=>(n=m/\0<=n/\n<=4294967296)/\g7 ids K B d=true/\k (.c (.one (.own d))) ⟨[],[d],[(d,some (.row e .u8 (List.replicate n.toNat (0:UInt8))))]⟩
   |false=>False
  |_,_,_,_=>False):cM P N ids o K B k:=by
 have m1:x∈o.op.operands:=aE4
 have m2:y∈o.op.operands:=aE4
 split at h
 .rename_i e te n m d U hx aD H;obtain⟨aZ,c9,ds,bu⟩:=oe bl U
  split at h
  .rename_i rB;obtain⟨rB,ti,i2,ip,sQ,t7,fu,iq⟩:=ve bl rB;obtain⟨aH,aM,At⟩:=QO sQ t7;obtain⟨⟨rfl,ar,E⟩,cF,h⟩:=h;refine cM.ba h cF <| bx.make (fun d h=>Aq h) fun K' B' g1 g2 C ρ F a w ak au hn=>?_
   have dq:=au.int ((g1 x m1).trans hx);have d':=au.int ((g1 y m2).trans aD);have dK:=aaL (P:=P) (w:=w) T e aZ sQ.jK aM At (sQ.size.trans fu) (sQ.bytes.trans iq) n.toNat aD7;rw[show((n.toNat:Nat):Int)=n by omega] at dK;refine⟨.slice (some ⟨w.heap.size,0,none⟩) n.toNat n.toNat,w.alloc (.cells (List.replicate n.toNat (.int .u8 0)).toArray e),⟨w.heap.size,some ⟨w.heap.size,0,none⟩,n.toNat,n.toNat⟩,fun b=>b=w.heap.size,?_,wD w _,fun b O=>by subst O;exact⟨at0 _,aD9⟩,fun I U O=>⟨⟨?_,?_,List.replicate n.toNat (.int .u8 0),?_,?_⟩,?_⟩⟩
   .simp only[execOp,ai,aw3,dq,d',dK,au6,ax1]
   .intro b;simp[bp.eS,Value.ownBlock,eq_comm]
   .intro b O;simp[bp.eS,Value.ownBlock] at O;exact O.symm
   .have:=FX w e 1 n.toNat (List.replicate n.toNat (.int .u8 0)) aD9 aH0;have af:List.length (α:=aa .u8) (List.replicate n.toNat (0:UInt8))=n.toNat:=au2;rw[af];exact this
   .intro i aH aM;obtain⟨hi,rD⟩:=au0.1 aM;have t7:aH=(0:UInt8):=by rw[<-rD];exact List.getElem_replicate ..
    have hi:i < n.toNat:=by
     have af:List.length (α:=aa .u8) (List.replicate n.toNat (0:UInt8))=n.toNat:=au2;rw[af] at hi;exact hi
    subst t7;show(List.replicate n.toNat (Value.int .u8 0))[i*1+0]? =some (Value.int .u8 ((0:UInt8).toNat:Int));rw[Nat.mul_one,aA0,aB4,vj hi];rfl
   .simp only[cx,gC,dW,dB,bp.eS]
  .exact h.elim
 .exact h.elim
def F3 {w:aH9} {e s n:Nat} {v:aI8} {cs:aH7} (h:w.ownsRow 0 e s v n cs): ∃pl:bp,pl.eS=v/\ ∀b,v.ownBlock=some b->b=pl.bf:=by
 rcases h.2 with⟨rfl,_⟩ |⟨g,cap,di,rfl,_⟩
 .exact⟨⟨0,none,0,0⟩,rfl,fun b O=>by cases O⟩
 .exact⟨⟨g,some ⟨g,0,none⟩,n,cap⟩,rfl,fun b O=>by simp[Value.ownBlock] at O;exact O.symm⟩
def aaN (bl:d6 P aQ) {T:aI3} {x y:aI2} {c:Call} {e:Nat} {te:b8} {u:bz} (ai:o.op= .call c) (eW:c.callee= .builtin .append) (e3:c.args.toList=[x,y]) (li:c.argTypes.toList=[T,T]) (U:elemOf aQ T=some (e,te)) (aZ:te.u=some u)
  {a:Act} {w:aH9} {v:aI8} {n m:Nat} {cs gK:aH7} {D:Nat->Prop} (hx:a.eval x=v) (dV:w.ownsRow 0 e (aR u) v n cs) (E:hS D w (aR u) (a.eval y) m gK) (ah: ∀x∈gK,x.oneCell'=true) (hn:n+m<=4294967296):
  ∃dA w',(execOp a.eval o).run P w= .ok (.value dA) w'/\w'.ownsRow 0 e (aR u) dA (n+m) (cs++gK)/\w.grownBy w' v.ownBlock/\(dA.ownBlock=v.ownBlock\/dA.ownBlock=some w.heap.size):=by
 obtain⟨bR,c9,ds,bu⟩:=oe bl U;obtain⟨aH,aM,o4⟩:=bu.zero;have cA:aR u=c9.size:=(bu.u u aZ).trans bu.size.symm
 have rl:aH.cells.size=c9.size:=by
  have E:=cf.length _ _ (wL (ρ:=fun _=>⟨0,none,0,0⟩) (I:=fun _=>False) (w:=w) _ _ o4).1;simp at E;rw[E,bu.J8,bu.size]
 have lh:0 < c9.size:=by have:=bu.pos;have:=bu.size;omega
 have x8:(n+m)*c9.bytes<=140737488355328:=by
  have E:c9.bytes<=32768:=by rw[bu.bytes];exact bu.Qk
  exact ay1 (ay8 hn E) aD8
 obtain⟨dA,w',dK,g1,g2,cL⟩:=Jp (P:=P) w 0 T o.type e c9 aH (aR u) c9.bytes bR bu.jK aM cA.symm rfl (by rw[rl,cA]) (by rw[cA];exact lh) v n cs dV D (a.eval y) m gK E ah aH0 x8 (at6 _);refine⟨dA,w',?_,g1,g2,cL⟩;have e6:c.args= #[x,y]:=ay4.1 e3;have iN:c.argTypes= #[T,T]:=ay4.1 li;obtain⟨rC,args,ct⟩:=c;simp only at eW e6 iN;subst eW e6 iN;unfold execOp;simp only[ai,resolve,invoke,builtin,aw3,ax1,au6,List.map_toArray,au9,aC9,hx,dK]
def aaO {I:Nat->Prop} {w:aH9} {u:bz} {xs:List (aa u)} {cs:aH7} (al:cs.length=xs.length*aR u) (h:hC I w u xs cs): ∀v∈cs,v.oneCell'=true:=fun v aB=>by
 obtain⟨k,Z,rfl⟩:=aA5 aB;obtain⟨af,ao,br⟩:=Ju (show k < xs.length*aR u by omega);obtain⟨dA,E,G⟩:=cy.one u _ _ (h (k/aR u) _ (as7 af)) (k % aR u) ao;rw[br,as7 Z] at E;injection E with E
 rw[E];exact G
def QP (bl:d6 P aQ) {T:aI3} {x y:aI2} {c:Call} {e:Nat} {te:b8} {u:bz} (ai:o.op= .call c) (eW:c.callee= .builtin .append) (e3:c.args.toList=[x,y]) (li:c.argTypes.toList=[T,T]) (U:elemOf aQ T=some (e,te)) (aZ:te.u=some u)
  {a:Act} {w:aH9} {v:aI8} {n:Nat} {cs:aH7} {I:Nat->Prop} {ys:List (aa u)} (hx:a.eval x=v) (dV:w.ownsRow 0 e (aR u) v n cs) (aD:cy I w (.ci u) ys (fun _=>some (a.eval y))) (a7: ∀b,I b->b < w.heap.size) (hn:n+ys.length<=4294967296):
  ∃dA w' gK,(execOp a.eval o).run P w= .ok (.value dA) w'/\w'.ownsRow 0 e (aR u) dA (n+ys.length) (cs++gK)/\hC I w u ys gK/\w.grownBy w' v.ownBlock/\(dA.ownBlock=v.ownBlock\/dA.ownBlock=some w.heap.size):=by
 obtain⟨bR,c9,ds,bu⟩:=oe bl U;obtain⟨aH,aM,o4⟩:=bu.zero;obtain⟨gK,E,G,ah⟩:=QA aD a7;have cA:aR u=c9.size:=(bu.u u aZ).trans bu.size.symm
 have rl:aH.cells.size=c9.size:=by
  have E:=cf.length _ _ (wL (ρ:=fun _=>⟨0,none,0,0⟩) (I:=fun _=>False) (w:=w) _ _ o4).1;simp at E;rw[E,bu.J8,bu.size]
 have lh:0 < c9.size:=by have:=bu.pos;have:=bu.size;omega
 have x8:(n+ys.length)*c9.bytes<=140737488355328:=by
  have E:c9.bytes<=32768:=by rw[bu.bytes];exact bu.Qk
  exact ay1 (ay8 hn E) aD8
 obtain⟨dA,w',dK,g1,g2,cL⟩:=Jp (P:=P) w 0 T o.type e c9 aH (aR u) c9.bytes bR bu.jK aM cA.symm rfl (by rw[rl,cA]) (by rw[cA];exact lh) v n cs dV I (a.eval y) ys.length gK E ah aH0 x8 (at6 _);refine⟨dA,w',gK,?_,g1,G,g2,cL⟩;have e6:c.args= #[x,y]:=ay4.1 e3;have iN:c.argTypes= #[T,T]:=ay4.1 li;obtain⟨rC,args,ct⟩:=c;simp only at eW e6 iN;subst eW e6 iN;unfold execOp;simp only[ai,resolve,invoke,builtin,aw3,ax1,au6,List.map_toArray,au9,aC9,hx,dK]
def Mem.move {C:fc} {ρ:Nat->bp} {F:Nat->Nat->Prop} {w w':aH9} (h:Mem ids C B ρ F w) {c d:Nat} {cB ch:a8} (J:ae B c=some cB) (hf:g7 ids K B d=true) (cF:cU (F c) w w') (pl:bp) (cg:Nat->Prop) (l1: ∀b,cg b->(F c b\/w.heap.size<=b)/\b < w'.heap.size)
  (c': ∀I,cm (bZ C B F w) w I w'->(∀b,I b->b < w'.heap.size/\ ¬cg b)->Holds (dv ρ d pl) I cg w' pl ch):
  Mem ids C ((d,ch)::gT B c) (dv ρ d pl) (dv F d cg) w'/\cm (bZ C B F w) w (bZ C ((d,ch)::gT B c) (dv F d cg) w') w':=by
 obtain⟨fU,gV,f3,f4⟩:=ld hf;have yr:d≠c:=fun e=>by subst e;rw[gV] at J;cases J
 refine h.step (fun i=>i=d\/i=c) (fun i=>i=d) (cF.mono fun b _ O=>⟨c,cB,J,.inr rfl,O⟩) ?_ (fun i hi=>dD _ _ hi) (fun i hi=>dD _ _ (fun e=>hi (.inl e))) (fun i hi e=>f4 (e▸hi)) (fun _ h=>.inl h) ?_ ?_ ?_ ?_
 .intro i ch' hi a6;rw[co,mu (fun e=>a6 (.inl e.symm)),hD] at hi
  split at hi
  .cases hi
  .exact hi
 .rintro i ch' hi _ j U rfl;rw[f3 i ch' hi] at U
  cases U
 .rintro i ch' hi ak U;rw[co] at hi
  split at hi
  .rename_i e;subst e;injection hi with hi
   subst hi;rw[dB,dB];exact c' _ U fun b c8=>⟨c8.1,fun aV=>c8.2.2 d ch aF9 (by rw[dB];exact aV)⟩
  .rename_i e;rcases ak with rfl |rfl
   .exact at1 rfl e
   .rw[hD,vj rfl] at hi;cases hi
 .rintro i ch' hi ak b aV;rcases ak with rfl |rfl
  .rw[dB] at aV;obtain⟨E,G⟩:=l1 b aV;exact⟨G,E.imp (fun h=>⟨c,cB,J,.inr rfl,h⟩) id⟩
  .rw[co,mu yr,hD,vj rfl] at hi;cases hi
 .rintro i j i' o0 b hi V aaP aaQ a6
  have q: ∀i ch',ae ((d,ch)::gT B c) i=some ch'->(i=d\/i=c)->i=d:=fun i ch' hi ak=>by
   rcases ak with rfl |rfl
   .rfl
   .rw[co,mu yr,hD,vj rfl] at hi;cases hi
  exact at1 ((q i i' hi aaP).trans (q j o0 V aaQ).symm) a6
def Km {w w':aH9} {r:aI4} {S:Nat->Prop} (h:w.grownBy w' r) (au: ∀b,r=some b->S b):cU S w w':=Zo h au
def aaR (bl:d6 P aQ) {T:aI3} {x y:aI2} {c:Call} (ai:o.op= .call c) (eW:c.callee= .builtin .append) (e3:c.args.toList=[x,y]) (li:c.argTypes.toList=[T,T])
  (h:JT aQ T (a1 K x) (a1 K y) o.dst ids K B k):cM P N ids o K B k:=by
 have mem: ∀aH∈ [x,y],aH∈o.op.operands:=fun aH aM=>by
  rw[ai];simp only[Op.operands,Call.operands,aB5];exact .inr (aC0.1 (by rw[e3];exact aM))
 have m1:=mem x aD9;have m2:=mem y aD9;unfold JT at h
 split at h
 .rename_i e te d U H
  split at h
  .rename_i u v ys aZ aD
   split at h
   .rename_i sO _;subst sO
    split at h
    .rename_i hx;obtain⟨bW,cF,h⟩:=h;refine cM.ba h cF <| bx.make (fun d h=>Aq h) fun K' B' g1 g2 C ρ F a w ak au hn=>?_
     obtain⟨dA,w',gK,dK,cl,cY,ek,eL⟩:=QP bl ai eW e3 li U aZ (au.dC ((g1 x m1).trans hx)) (World.ownsRow_nil w 0 e (aR v)) (au.b' ((g1 y m2).trans aD)) (fun b O=>O.1) aD7;obtain⟨pl,gX,j7⟩:=F3 cl;have O:Below w.heap.size w w':=⟨ek.os,ek.tape,ek.output,ek.size,fun b O=>ek.block b O (by simp[Value.ownBlock])⟩
     have aaS: ∀b,dA.ownBlock=some b->w.heap.size<=b/\b < w'.heap.size:=fun b c8=>by
      have:=cl.lt b c8;rcases eL with eL |eL
      .rw[eL] at c8;cases c8
      .rw[eL] at c8;injection c8 with c8;omega
     refine⟨dA,w',pl,fun b=>dA.ownBlock=some b,dK,O,aaS,fun I hH a7=>⟨⟨fun b=>by rw[gX],fun b O=>j7 b (by rwa[gX] at O),gK,?_,?_⟩,?_⟩⟩
     .rw[gX];have:=cl;rw[ax6,aD4] at this;exact this
     .exact hC.mono hH cY
     .simp only[cx,gC,dW,dB,gX]
    .rename_i mr hx
     split at h
     .rename_i cc tQ xs al
      split at h
      .rename_i Kn sR _;have sR:=at8 sR;subst Kn sR;obtain⟨bW,cF,h⟩:=h;refine cM.ba h cF ?_;rintro K' B' g1 g2 cL C a w ⟨sP,tZ,ρ,F,ak,au⟩ bv fN Q cR;have fG:ae B' mr=_:=(g2 mr aD9).trans al;have hf:=cL d aD9;have o6:=ld hf;have bd:=ak.holds mr _ fG;obtain⟨bg,iO,cs,dV,mW⟩:=bd;obtain⟨dA,w',gK,dK,cl,cY,ek,eL⟩:=QP bl ai eW e3 li U aZ (au.own ((g1 x m1).trans hx)) dV (au.b' ((g1 y m2).trans aD)) (fun b O=>O.1) (by have:(n3 rfl xs).length=xs.length:=rfl;omega);obtain⟨pl,gX,j7⟩:=F3 cl
       obtain⟨bH,hH⟩:=ak.move (K:=K') (ch:=.row cc tQ (n3 rfl xs++n3 rfl ys)) fG hf (Km ek fun b O=>(bg b).2 O) pl (fun b=>dA.ownBlock=some b) (fun b O=>⟨by
         rcases eL with eL |eL
         .exact .inl ((bg b).2 (eL.symm.trans O))
         .rw[eL] at O;injection O with O;exact .inr aD7,(cl.lt b O).2⟩)
        (fun I hH a7=>⟨fun b=>by rw[gX],fun b O=>j7 b (by rwa[gX] at O),cs++gK,by rw[gX];simpa[n3] using cl,hC.u' (hC.mono hH mW) (hC.mono hH cY) dV.1⟩)
       unfold Oper.wp;rw[dK,Oper.upon_value];exact cR _ _ ⟨kN.trans sP,kO.trans tZ,_,_,bH,(au.mono hH fun s i hi=>dD _ _ (fun e=>by subst e;rw[o6.1 s] at hi;cases hi)).kP (fun e U=>by rw[sP];exact bv e U) (by simp only[cx,gC,dW,dB,gX])⟩
      .exact h.elim
     .exact h.elim
    .exact h.elim
   .exact h.elim
  .rename_i u cp aZ aD
   split at h
   .rename_i mr hx
    split at h
    .rename_i cc tQ xs ao v ys al l4
     split at h
     .rename_i sO Kn a6 sR _ _;have sR:=at8 sR;subst sO Kn sR;obtain⟨bW,cF,h⟩:=h;refine cM.ba h cF ?_;rintro K' B' g1 g2 cL C a w ⟨sP,tZ,ρ,F,ak,au⟩ bv fN Q cR;have fG:ae B' mr=_:=(g2 mr aD9).trans al;have aaT:ae B' cp=_:=(g2 cp aD9).trans l4;have hf:=cL d aD9;have o6:=ld hf;obtain⟨bg,iO,cs,dV,mW⟩:=ak.holds mr _ fG;obtain⟨kv,asn,aaU,QQ,QR⟩:=ak.holds cp _ aaT;have ir:=hS.tN QQ;rw[<-au.own ((g1 y m2).trans aD)] at ir;obtain⟨dA,w',dK,cl,ek,eL⟩:=aaN bl ai eW e3 li U aZ (au.own ((g1 x m1).trans hx)) dV ir (aaO QQ.1 QR) (by have:(n3 rfl xs).length=xs.length:=rfl;have:(n3 rfl ys).length=ys.length:=rfl;omega);obtain⟨pl,gX,j7⟩:=F3 cl
      obtain⟨bH,hH⟩:=ak.move (K:=K') (ch:=.row cc tQ (n3 rfl xs++n3 rfl ys)) fG hf (Km ek fun b O=>(bg b).2 O) pl (fun b=>dA.ownBlock=some b) (fun b O=>⟨by
        rcases eL with eL |eL
        .exact .inl ((bg b).2 (eL.symm.trans O))
        .rw[eL] at O;injection O with O;exact .inr aD7,(cl.lt b O).2⟩)
       (fun I hH a7=>⟨fun b=>by rw[gX],fun b O=>j7 b (by rwa[gX] at O),cs++aaU,by rw[gX];simpa[n3] using cl,hC.u' (hC.mono hH mW) (hC.mono hH QR) dV.1⟩)
      unfold Oper.wp;rw[dK,Oper.upon_value];exact cR _ _ ⟨kN.trans sP,kO.trans tZ,_,_,bH,(au.mono hH fun s i hi=>dD _ _ (fun e=>by subst e;rw[o6.1 s] at hi;cases hi)).kP (fun e U=>by rw[sP];exact bv e U) (by simp only[cx,gC,dW,dB,gX])⟩
     .exact h.elim
    .exact h.elim
   .exact h.elim
  .exact h.elim
 .exact h.elim
def QS (s:aH3):Go.Lib.strCells ⟨s.toArray⟩=s.map gu:=by simp[Go.Lib.strCells,gu]
def aaV {w:aH9} {T ew ty e:aI3} {i:aJ3} (bR:P.underlying T=some (.slice e)) (aZ:P.underlying ew=some .string) (hi:P.info? e=some i) (aM:i.zero=some (.int .u8 0)) (aw:i.size=1) (O:i.bytes=1)
  {v:aI8} {n:Nat} {cs:aH7} (dV:w.ownsRow 0 e 1 v n cs) (s:aH3) (hn:n+s.length<=4294967296):
  ∃dA w',(Builtin.append_ #[T,ew] ty #[v,.string ⟨s.toArray⟩]).run P w= .ok dA w'/\w'.ownsRow 0 e 1 dA (n+s.length) (cs++s.map gu)/\w.grownBy w' v.ownBlock/\ ∀b,dA.ownBlock=some b->v.ownBlock=some b\/w.heap.size<=b:=by
 have cA:(⟨s.toArray⟩:aJ7).size=s.length:=u9 s;rcases dV.2 with⟨rfl,rfl⟩ |⟨g,cap,di,rfl,-,aV,PU,aso,fC,rE⟩
 .have aaW:cs=[]:=aw5 (by simpa using dV.1);subst aaW;obtain⟨dA,w',aj,G,ah,_⟩:=Go.Lib.run_append_own_string (P:=P) w w.heap.size T ew ty e i bR aZ hi aM aw O (.slice none 0 0) 0 [] (World.ownsRow_nil w w.heap.size e 1) ⟨s.toArray⟩ (by rw[cA];simp only[maxLen];omega) aG4 (at0 _);rw[cA,QS] at G;refine⟨dA,w',aj,⟨G.1,?_⟩,ah,fun b O=>.inr ?_⟩
  .rcases G.2 with h |⟨g,cap,di,aB,_,r⟩
   .exact .inl h
   .exact .inr ⟨g,cap,di,aB,at6 _,r⟩
  .rcases G.2 with⟨h,_⟩ |⟨g,cap,di,aB,rk,r⟩
   .rw[h] at O;cases O
   .rw[aB] at O;simp[Value.ownBlock] at O;omega
 .obtain⟨dA,w',aj,G,ah,_⟩:=Go.Lib.run_append_own_string (P:=P) w 0 T ew ty e i bR aZ hi aM aw O (.slice (some ⟨g,0,none⟩) n cap) n cs dV ⟨s.toArray⟩ (by rw[cA];simp only[maxLen];omega) aG4 (at6 _);have t8:cs.length=n:=by simpa using dV.1
  refine⟨dA,w',aj,by rw[cA,QS] at G;exact G,ah,fun b c8=>?_⟩
  by_cases aaX:n+(⟨s.toArray⟩:aJ7).size<=cap
  .have vf:=Go.Lib.run_append_room_string (P:=P) w T ew ty e i bR aZ hi aw g n cap di aV ⟨s.toArray⟩ aaX aD7;rw[aj] at vf;injection vf with af ao
   rw[af] at c8;exact .inl c8
  .have holds: ∀j u,cs[j]? =some u->w.cell? ((⟨g,0,none⟩:Addr).add j)=some u:=dV.cells (g:=g) rfl;have vf:=Go.Lib.run_append_grow_string (P:=P) w T ew ty e i (.int .u8 0) bR aZ hi aM ⟨g,0,none⟩ n cap cs (by rw[aw];simpa using t8) holds ⟨s.toArray⟩ aD7 aG4 (by rw[O];exact growslice_fits aD7 (by rw[cA];omega));rw[aj] at vf;injection vf with af ao
   rw[af] at c8;simp[Value.ownBlock] at c8;exact .inr aD7
def aaY (I:Nat->Prop) (w:aH9) (xs:aH3):hC I w .u8 xs (xs.map gu):=fun i x hx=>by
 show(xs.map gu)[i*1+0]? =_;rw[Nat.mul_one,aA0,av1,show xs[i]? =some x from hx];rfl
def aaZ (bl:d6 P aQ) {T ew:aI3} {x y:aI2} {c:Call} (ai:o.op= .call c) (eW:c.callee= .builtin .append) (e3:c.args.toList=[x,y]) (li:c.argTypes.toList=[T,ew])
  (h:JU aQ T ew (a1 K x) (a1 K y) o.dst ids K B k):cM P N ids o K B k:=by
 have mem: ∀aH∈ [x,y],aH∈o.op.operands:=fun aH aM=>by
  rw[ai];simp only[Op.operands,Call.operands,aB5];exact .inr (aC0.1 (by rw[e3];exact aM))
 have m1:=mem x aD9;have m2:=mem y aD9;unfold JU at h
 split at h
 .rename_i e te d U aa0 H
  split at h
  .rename_i mr s hx aD
   split at h
   .rename_i cc xs rB al
    split at h
    .rename_i sR;have sR:=at8 sR;subst sR;obtain⟨bW,cF,h⟩:=h;obtain⟨bR,c9,ds,bu⟩:=oe bl U;obtain⟨aa1,aa2⟩:=ve bl rB;have ed:=FW bl aa0;refine cM.ba h cF ?_;rintro K' B' g1 g2 cL C a w ⟨sP,tZ,ρ,F,ak,au⟩ bv fN Q cR;have fG:ae B' mr=_:=(g2 mr aD9).trans al;have hf:=cL d aD9;have o6:=ld hf;have bd:=ak.holds mr _ fG;obtain⟨bg,iO,cs,dV,mW⟩:=bd;obtain⟨ti,i2,ip,sQ,t7,fu,iq⟩:=aa2;obtain⟨aH,aM,At⟩:=QO sQ t7
     have rD:aH= .int .u8 0:=by
      have E:=sQ.Ql aH aM (by have:=sQ.oc;rw[aa1] at this;injection this with this;rw[<-this]);rw[E] at At;simpa using At
     rw[rD] at aM;obtain⟨dA,w',dK,cl,ek,eL⟩:=aaV (P:=P) (w:=w) (T:=T) (ew:=ew) (ty:=o.type) bR ed sQ.jK aM (sQ.size.trans fu) (sQ.bytes.trans iq) (show w.ownsRow 0 cc 1 (ρ mr).eS (List.length (α:=UInt8) xs) cs from dV) s bW;obtain⟨pl,gX,j7⟩:=F3 cl
     obtain⟨bH,hH⟩:=ak.move (K:=K') (ch:=.row cc .u8 (List.append (α:=UInt8) xs s)) fG hf (Km ek fun b O=>(bg b).2 O) pl (fun b=>dA.ownBlock=some b) (fun b O=>⟨by
       rcases eL b O with eL |eL
       .exact .inl ((bg b).2 eL)
       .exact .inr eL,(cl.lt b O).2⟩)
      (fun I hH a7=>⟨fun b=>by rw[gX],fun b O=>j7 b (by rwa[gX] at O),cs++s.map gu,by
       rw[gX];have:List.length (α:=aa .u8) (List.append (α:=UInt8) xs s)=List.length (α:=UInt8) xs+s.length:=as9;rw[this];exact cl,hC.u' (u:=.u8) (hC.mono hH mW) (aaY _ _ s) dV.1⟩)
     have e6:c.args= #[x,y]:=ay4.1 e3;have iN:c.argTypes= #[T,ew]:=ay4.1 li;obtain⟨rC,args,ct⟩:=c;simp only at eW e6 iN;subst eW e6 iN;have dq:=au.own ((g1 x m1).trans hx);have d':=au.str ((g1 y m2).trans aD)
     have qt:(execOp a.eval o).run P w= .ok (.value dA) w':=by
      unfold execOp;simp only[ai,resolve,invoke,builtin,aw3,ax1,au6,List.map_toArray,au9,aC9,dq,d',dK]
     unfold Oper.wp;rw[qt,Oper.upon_value];exact cR _ _ ⟨kN.trans sP,kO.trans tZ,_,_,bH,(au.mono hH fun s i hi=>dD _ _ (fun e=>by subst e;rw[o6.1 s] at hi;cases hi)).kP (fun e U=>by rw[sP];exact bv e U) (by simp only[cx,gC,dW,dB,gX])⟩
    .exact h.elim
   .exact h.elim
  .exact h.elim
 .exact h.elim
end
end
section
section
variable {P:aI0} {aQ:df} {N:Nat} {ids:aH4} {o:Oper} {K:aW} {B:ay} {k:aN->fk->Prop}
def QT {α:Type} (di ys:List α) (off N:Nat) (h:off+ys.length<=N) (G:N<=di.length):(di.take off++ys++di.drop (off+ys.length)).take N=(di.take N).take off++ys++(di.take N).drop (off+ys.length):=by
 rw[List.take_append,ax3 aF5,List.take_take,Nat.min_eq_left aD7,List.drop_take]
 congr 2
 simp;omega
def aa3 {w:aH9} {dT sT ty e:aI3} (aZ:P.underlying dT=some (.slice e)) (cA:(P.info? e).map (·.size)=some 1) {v:aI8} {M off n dCap m:Nat} {cs ys:aH7} {ry:Option Addr} {j4:aI8} {D:Nat->Prop} {cc:aI3}
  (dV:w.ownsRow 0 cc 1 v M cs) (H:0 < n-> ∀g cap,v= .slice (some ⟨g,0,none⟩) M cap->M<=cap->ry=some ⟨g,off,none⟩) (jL:off+n<=M) (ir:hS D w 1 j4 m ys) (E: ∀v∈ys,v.oneCell'=true):
  ∃x w',(Builtin.copy_ #[dT,sT] ty #[.slice ry n dCap,j4]).run P w= .ok x w'/\cU (fun b=>v.ownBlock=some b) w w'/\w'.ownsRow 0 cc 1 v M (cs.take off++ys.take n++cs.drop (off+(ys.take n).length)):=by
 obtain⟨sp,uZ,rfl,al,lh⟩:=PV ir n;have gD:(ys.take n).length<=n:=by rw[at9];exact Nat.min_le_left _ _
 by_cases ar:(ys.take n).length=0
 .refine⟨_,w,run_copy_none (P:=P) w dT sT ty e ry sp n dCap m uZ aZ cA (by rw[<-al];exact ar),cU.refl _ _,?_⟩;rw[aw5 ar];simpa using dV
 .obtain⟨ad,rfl,CX⟩:=lh aD7;obtain⟨bW,dV⟩:=dV;rcases dV with⟨_,ak⟩ |⟨g,cap,di,aB,O,aV,eW,e3,li,QU⟩
  .omega
  .obtain rfl:=H aD7 g cap aB eW;have aa4:di.toList.length=cap:=by simpa using li
   rw[Nat.mul_one] at QU bW;refine⟨_,_,run_copy_row (P:=P) w dT sT ty e g off n dCap ad m uZ di cc (ys.take n) aZ cA aV al CX (by rw[<-Array.length_toList];omega) (fun v aB=>E v (List.mem_of_mem_take aB)),CU (by rw[aB];rfl),?_⟩;refine⟨by simp only[as9,at9,ax8,Nat.mul_one] at*;omega,.inr ⟨g,cap,_,aB,O,setRow_heap w g _ _ cc _ aV,eW,e3,by simp only[List.size_toArray,as9,at9,ax8,Nat.mul_one] at*;omega,?_⟩⟩;rw[Nat.mul_one];show List.take M (di.toList.take off++ys.take n++di.toList.drop (off+(ys.take n).length))=_;rw[QT _ _ _ _ aD7 aD7,QU]
def F4 (xs ys:aH3) {off n:Nat} (h:off+n<=xs.length):(laid xs off n ys).length=xs.length:=by simp only[laid,as9,at9,ax8];omega
def Ko (xs ys:aH3) (off n:Nat):List.take off (xs.map gu)++List.take n (ys.map gu)++List.drop (off+(List.take n (ys.map gu)).length) (xs.map gu)=(laid xs off n ys).map gu:=by simp only[laid,ay6,List.map_take,List.map_drop,at9,au3]
def aa5 {I:Nat->Prop} {w:aH9} {xs:aH3} {cs:aH7} (h:hC I w .u8 xs cs) (al:cs.length=xs.length):cs=xs.map gu:=by
 refine aB2 fun i=>?_
 rw[av1]
 cases hx:xs[i]? with
 |none=>
  have:=List.getElem?_eq_none_iff.1 hx;rw[List.getElem?_eq_none_iff.2 aD7];rfl
 |some x=>
  have G:=h i x hx;simpa[cy,aR,gu] using G
def aa6 (I:Nat->Prop) (w:aH9) (xs:aH3):hC I w .u8 xs (xs.map gu):=fun i x hx=>by
 have hx:xs[i]? =some x:=hx;simp[cy,aR,hx];rfl
def QV {I:Nat->Prop} {w:aH9} {v:aI8} {l:aH3} (a7: ∀b,I b->b < w.heap.size) (h:cy I w (.ci .u8) l (fun _=>some v)):hS I w 1 v l.length (l.map gu):=by
 obtain⟨A,cap,ar,E,G,ah⟩:=h;injection ar with ar
 refine⟨aD9,A,cap,ar,E,G,fun ag=>?_⟩;obtain⟨b,o,dO,O,hx⟩:=ah ag;refine⟨b,o,dO,O,a7 b O,fun j u aZ=>?_⟩;rw[av1] at aZ;obtain⟨x,yt,rfl⟩:=ax0.1 aZ;have:=hx j x yt;simpa[cy,aR,gu] using this
def bx.QW {c:Nat} {cB ch:a8} (J:ae B c=some cB)
  (h: ∀(K':aW) (B':ay),(∀x,x∈o.op.operands->a1 K' x=a1 K x)-> ∀(C:fc) (ρ:Nat->bp) (F:Nat->Nat->Prop) (a:Act) (w:aH9),Mem ids C B' ρ F w->eo K' ρ (bZ C B' F w) a w->ae B' c=some cB-> ∃x w',(execOp a.eval o).run P w= .ok (.value x) w'/\cU (F c) w w'/\
   (∀I,cm (bZ C B' F w) w I w'->Holds ρ I (F c) w' (ρ c) ch)):
  bx P N ids o K B (.c (.one .any)) ⟨[c],[],[(c,some ch)]⟩:=by
 rintro K' B' E G - C a w ⟨hn,H,ρ,F,ak,au⟩ bv fN Q cR;have c3:ae B' c=some cB:=(G c aD9).trans J;obtain⟨x,w',hx,cF,c'⟩:=h K' B' E C ρ F a w ak au c3;obtain⟨bH,U⟩:=ak.hT c3 cF c';unfold Oper.wp;rw[hx,Oper.upon_value];exact cR _ _ ⟨kN.trans hn,kO.trans H,ρ,F,bH,(au.mono U fun _ _ _=>rfl).kP (fun e U=>by rw[hn];exact bv e U) trivial⟩
def QX (bl:d6 P aQ) {T ew e:aI3} {te:b8} {x y:aI2} {c:Call} {d off n:Nat} {ys:aH3} (ai:o.op= .call c) (eW:c.callee= .builtin .copy) (e3:c.args.toList=[x,y]) (li:c.argTypes.toList=[T,ew]) (U:elemOf aQ T=some (e,te)) (h6:pE aQ e=true) (aD:a1 K y= .c (.one (.d (.b' .u8 ys))))
  (hx: ∀(K':aW) (ρ:Nat->bp) (I:Nat->Prop) (a:Act) (w:aH9),eo K' ρ I a w->a1 K' x=a1 K x-> ∀(M:Nat),(ρ d).n=M->(∀e xs,ae B d=some (.row e .u8 xs)->List.length xs=M)->off+n<=M-> ∃ry dCap,a.eval x= .slice ry n dCap/\(0 < n-> ∀g cap,(ρ d).eS= .slice (some ⟨g,0,none⟩) M cap->M<=cap->ry=some ⟨g,off,none⟩))
  (h:FG d off n ys B k):cM P N ids o K B k:=by
 have e6:c.args= #[x,y]:=ay4.1 e3;have iN:c.argTypes= #[T,ew]:=ay4.1 li;obtain⟨rC,args,ct⟩:=c;simp only at eW e6 iN;subst eW e6 iN;have m1:x∈o.op.operands:=aE8
 have m2:y∈o.op.operands:=aE8
 obtain⟨aZ,c9,ds,bu⟩:=oe bl U;obtain⟨_,QY,i8,d8,wN,_,CY,_⟩:=ve bl h6;have cA:(P.info? e).map (·.size)=some 1:=by rw[wN.jK];simp[wN.size,CY]
 unfold FG at h
 split at h
 .rename_i cc xs al;obtain⟨jL,h⟩:=h;refine cM.of h <| bx.QW al fun K' B' E C ρ F a w ak au fG=>?_
  obtain⟨bg,j7,cs,dV,mW⟩:=ak.holds d _ fG;have QD:=dV;obtain⟨dR,A,cap,aB,_,_,_⟩:=hS.tN QD;have hn:(ρ d).n=xs.length:=by unfold bp.eS at aB;injection aB
  have fC:cs=xs.map gu:=aa5 mW (by have:=dR;simp[aR] at this;exact this);obtain⟨ry,dCap,vg,sS⟩:=hx K' ρ _ a w au (E x m1) _ hn (fun ao asp G=>by rw[al] at G;cases G;rfl) jL;have Kp:=QV (fun b O=>O.1) (au.b' ((E y m2).trans aD));obtain⟨r,w',dK,cF,fH⟩:=aa3 (P:=P) (w:=w) (dT:=T) (sT:=ew) (ty:=o.type) aZ cA (dCap:=dCap) dV sS jL Kp (Jr _);refine⟨r,w',?_,cF.mono fun b _ O=>(bg b).2 O,fun I aY=>⟨bg,j7,List.take off cs++List.take n (List.map gu ys)++List.drop (off+(List.take n (List.map gu ys)).length) cs,?_,?_⟩⟩
  .simp[execOp,ai,resolve,invoke,builtin,vg,dK]
  .have br:List.length (α:=aa .u8) (laid xs off n ys)=List.length (α:=aa .u8) xs:=F4 xs ys jL;show w'.ownsRow 0 cc 1 (ρ d).eS (List.length (α:=aa .u8) (laid xs off n ys)) _;rw[br];exact fH
  .rw[fC];have af:=Ko xs ys off n;rw[af];exact aa6 I w' _
 .exact h.elim
def aa7 (bl:d6 P aQ) {T ew:aI3} {x y:aI2} {c:Call} (ai:o.op= .call c) (eW:c.callee= .builtin .copy) (e3:c.args.toList=[x,y]) (li:c.argTypes.toList=[T,ew]) (h:J2 aQ T (a1 K x) (a1 K y) B k):cM P N ids o K B k:=by
 unfold J2 at h
 split at h
 .rename_i e te U
  split at h
  .rename_i ys h6 aD
   split at h
   .rename_i d hx
    split at h
    .rename_i cc xs al;refine QX bl ai eW e3 li U h6 aD (fun K' ρ I a w au Z M ak sU jL=>⟨(ρ d).A,(ρ d).cap,?_,fun ag g cap aB _=>?_⟩) h
     .have:=au.own (Z.trans hx);rw[this,sU cc xs al,<-ak];rfl
     .unfold bp.eS at aB;injection aB
    .exact h.elim
   .rename_i d s off n hx
    split at h
    .rename_i aw;have:=at8 aw;subst this;refine QX bl ai eW e3 li U h6 aD (fun K' ρ I a w au Z M ak sU jL=>⟨_,_,au.os (Z.trans hx),fun ag g cap aB asq=>?_⟩) h;unfold bp.eS at aB;injection aB with af ao br
     rw[mu aD7,af,az3,qo];simp
    .exact h.elim
   .exact h.elim
  .exact h.elim
 .exact h.elim
end
end
section
section
variable {P:aI0} {aQ:df} {N:Nat} {ids:aH4} {o:Oper} {K:aW} {B:ay} {k:aN->fk->Prop}
def kU: ∀{aK:ay} {B:ay},la B aK-> ∀{c ch},ae aK c=some ch->ae B c=some ch
 | [],B,h,c,ch,J=>by cases J
 |(d,x)::aK,B,h,c,ch,J=>by
  rw[co] at J
  split at J
  .rename_i e;subst e;injection J with J
   subst J;exact h.1
  .exact kU h.2 J
def gf: ∀{B:ay} {c:Nat},c∈ck B↔ ∃ch,ae B c=some ch
 | [],c=>by simp[ck,ae]
 |(d,x)::B,c=>by
  simp only[ck,at7,co]
  by_cases e:d=c
  .subst e;simp
  .rw[mu e];constructor
   .rintro(h |h)
    .exact at1 h.symm e
    .exact gf.1 h
   .exact fun h=>.inr (gf.2 h)
def Kq: ∀{aK:ay} {ba:aH4} {aO:ay},mV aK ba aO=true-> ∀{c},c∈ck aO->c∈ck aK\/c∈ba
 |aK,ba,[],h,c,J=>by simp[ck] at J
 |aK,ba,(d,x)::aO,h,c,J=>by
  simp only[mV,as8,ay9,av6] at h;rcases at7.1 J with rfl |J
  .exact h.1.1
  .exact Kq h.2 J
def QZ: ∀(aO:ay) (aK:ay) (ba:aH4) (B:ay),mV aK ba aO=true-> ∀c,ae (hk (iC [] aO) B) c=(match ae aO c with |some ch=>some ch |none=>ae B c)
 | [],_,_,B,_,c=>by simp[iC,JN,hk,ae]
 |(d,x)::aO,aK,ba,B,h,c=>by
  simp only[mV,as8,av3] at h;show ae (hk (iC [] aO) ((d,x)::B)) c=_;rw[QZ aO aK ba ((d,x)::B) h.2 c,co,co]
  by_cases e:d=c
  .subst e
   have hn:ae aO d=none:=by
    cases al:ae aO d with
    |none=>rfl
    |some ch=>
     have:=gf.2 ⟨ch,al⟩;have G:=h.1.2;rw[<-aD6,av6] at G;exact at1 this G
   rw[hn,vj rfl,vj rfl]
  .rw[mu e,mu e]
def F5: ∀(aK:ay) (m0:ay) (ba:aH4) (aO B:ay),mV m0 ba aO=true-> ∀c,ae (hk (iC aK aO) B) c=(match ae aO c with |some ch=>some ch |none=>if c∈ck aK then none else ae B c)
 | [],m0,ba,aO,B,h,c=>by
  rw[QZ aO m0 ba B h c];simp[ck]
 |(d,x)::aK,m0,ba,aO,B,h,c=>by
  simp only[iC,hk];rw[F5 aK m0 ba aO (gT B d) h c,hD]
  cases ae aO c with
  |some ch=>rfl
  |none=>
   simp only[ck,at7]
   by_cases e:d=c
   .subst e;simp
   .by_cases ao:c∈ck aK
    .simp[ao]
    .simp[e,ao,az2 e]
def F6: ∀{ba:aH4},sG ids K B ba=true-> ∀c,c∈ba->g7 ids K B c=true
 | [],_,c,J=>by cases J
 |d::ba,h,c,J=>by
  simp only[sG,as8] at h;rcases at7.1 J with rfl |J
  .exact h.1.1
  .exact F6 h.2 c J
def Q0 {ev:Operand->Value} {f:aI9} {c:Call} {xs:aJ8} {w:aH9} (hf:jp P f=true) (ai:o.op= .call c) (E:c.callee= .value (.func f)) (G:c.args.toList=xs) (vh:ev (.func f)= .func (.func f) #[] #[]):(execOp ev o).run P w= .ok (.enter f (xs.map ev).toArray) w:=by
 have e6:c.args=xs.toArray:=by rw[<-G]
 obtain⟨rC,args,ct⟩:=c;simp only at E e6;subst E e6;unfold jp at hf
 split at hf
 .rename_i fn kw;simp only[av3,ax5,beq_eq_false_iff_ne] at hf;have G: ¬fn.body=none:=fun e=>by rw[e] at hf;simp at hf
  simp[execOp,ai,resolve,invoke,vh,Deferred.ofValue,callFunc,go_sem,kw];rw[mu hf.1,mu G]
 .cases hf
def Au {xs:aJ8} (mem: ∀aH∈xs,aH∈o.op.operands) {K':aW} {ρ:Nat->bp} {I:Nat->Prop} {a:Act} {w:aH9} (g1: ∀x,x∈o.op.operands->a1 K' x=a1 K x) (au:eo K' ρ I a w) (i:Nat) (v:aN) (x:aI8) (aB:(xs.map (a1 K))[i]? =some v) (hx:(xs.map a.eval)[i]? =some x):cx ρ I w v x:=by
 rw[av1] at aB hx
 cases hi:xs[i]? with
 |none=>rw[hi] at aB;cases aB
 |some aH=>
  rw[hi] at aB hx;simp only[az3,at5] at aB hx;subst aB hx;rw[<-g1 aH (mem aH (ay0 hi))];exact au.get aH
def CZ {f:aI9} {args:List aN} {xs:aJ8} (mem: ∀aH∈xs,aH∈o.op.operands)
  (qt: ∀(K':aW) (ρ:Nat->bp) (I:Nat->Prop) (a:Act) (w:aH9),(∀x,x∈o.op.operands->a1 K' x=a1 K x)->eo K' ρ I a w-> ∃b0:List Value,(jp P f=true->(execOp a.eval o).run P w= .ok (.enter f b0.toArray) w)/\b0.length=args.length/\ ∀(i:Nat) (v:aN) (x:aI8),args[i]? =some v->b0[i]? =some x->cx ρ I w v x)
  (h:ye P f args ids K B k):cM P N ids o K B k:=by
 obtain⟨aK,ba,res,aO,⟨fP,kw⟩,h7,bu,h⟩:=h;rw[sF] at h;simp only[as8] at bu;have oh:=bu.2;refine⟨_,_,h,?_,F6 bu.1⟩;rintro K' B' g1 g2 cL C a w ⟨hn,H,ρ,F,ak,au⟩ bv fN Q cR;have eX: ∀{c ch},ae aK c=some ch->ae B' c=some ch:=fun {c ch} J=>(g2 c (gf.2 ⟨ch,J⟩)).trans (kU h7 J)
 have o6: ∀c∈ba,(∀s,(dX K' s).has c=false)/\ae B' c=none/\(∀d ch,ae B' d=some ch->ch.has c=false)/\c∉ids:=fun c J=>ld (cL c J)
 obtain⟨b0,dK,rF,t'⟩:=qt K' ρ _ a w g1 au
 have J:=kw ρ F (bZ C B' F w) w b0 (fun b O=>O.1) (fun c ch J=>ak.holds c ch (eX J)) (fun c ch J b O=>⟨(ak.own c ch (eX J) b O).1,fun a7=>a7.2.2 c ch (eX J) O⟩)
  (fun c cn ch ch' b E G=>ak.fd c cn ch ch' b (eX E) (eX G)) rF t'
 unfold Oper.wp;rw[dK fP,Oper.upon_enter];refine J.mono ?_;rintro e w' ⟨x,ρ',F',rfl,cF,dl,I',jq,gG,c',ax,hU,dG⟩;have C0: ∀c,ae (hk (iC aK aO) B') c=(match ae aO c with |some ch=>some ch |none=>if c∈ck aK then none else ae B' c):=F5 aK aK ba aO B' oh
 have pH: ∀c ch,ae (hk (iC aK aO) B') c=some ch->ae aO c=some ch\/(ae aO c=none/\c∉ck aK/\ae B' c=some ch):=fun c ch J=>by
  rw[C0] at J
  cases O:ae aO c with
  |some ch'=>rw[O] at J;exact .inl J
  |none=>
   rw[O] at J;simp only at J
   split at J
   .cases J
   .rename_i Z;exact .inr ⟨rfl,Z,J⟩
 let cS:Nat->Nat->Prop:=fun c=>if c∈ck aO then F' c else F c
 have kv: ∀c ch,ae aO c=some ch->cS c=F' c:=fun c ch J=>vj (gf.2 ⟨ch,J⟩)
 have C1: ∀c,ae aO c=none->cS c=F c:=fun c J=>mu (fun Z=>by
  obtain⟨ch,h⟩:=gf.1 Z;rw[J] at h;cases h)
 have kV: ∀c ch,ae aO c=some ch->c∈ck aK\/c∈ba:=fun c ch J=>Kq oh (gf.2 ⟨ch,J⟩)
 have vi: ∀c ch,ae (hk (iC aK aO) B') c=some ch->(c∈ck aK\/c∈ba)->ae aO c=some ch:=fun c ch J bH=>by
  rcases pH c ch J with h |⟨E,G,ah⟩
  .exact h
  .rcases bH with h |h
   .exact at1 h G
   .rw[(o6 c h).2.1] at ah;cases ah
 have qu:cm I' w' (bZ C (hk (iC aK aO) B') cS w') w':=fun b O=>by
  obtain⟨af,ao⟩:=gG b O;refine⟨⟨af,?_,fun c ch J bg=>?_⟩,rfl⟩
  .rcases ao with ao |⟨c,ch,ao,br⟩ |ao
   .exact ao.2.1
   .exact .inr ((ak.own c ch (eX ao) b br).2)
   .exact .inr (.inr (ak.fresh ao))
  .rcases pH c ch J with h |⟨E,G,ah⟩
   .rw[kv c ch h] at bg;exact(ax c ch h b bg).2.1 O
   .rw[C1 c E] at bg;rcases ao with ao |⟨d,ch',ao,br⟩ |ao
    .exact ao.2.2 c ch ah bg
    .exact ak.fd d c ch' ch b (eX ao) ah (fun e=>G (e▸gf.2 ⟨ch',ao⟩)) br bg
    .have:=(ak.own c ch ah b bg).1;omega
 obtain⟨bH,aY⟩:=ak.step (B':=hk (iC aK aO) B') (ρ':=ρ') (F':=cS) (w':=w') (fun c=>c∈ck aK\/c∈ba) (fun c=>c∈ba)
  (cF.mono fun b _ ⟨c,ch,E,G⟩=>⟨c,ch,eX E,.inl (gf.2 ⟨ch,E⟩),G⟩)
  (fun c ch J hn=>by
   rcases pH c ch J with h |⟨_,_,ah⟩
   .exact at1 (kV c ch h) hn
   .exact ah)
  dl
  (fun c hn=>by
   cases O:ae aO c with
   |none=>exact C1 c O
   |some ch=>exact at1 (kV c ch O) hn)
  (fun c J hn=>(o6 c hn).2.2.2 J) (fun c h=>.inr h)
  (fun c ch J _ d H hn=>by rw[(o6 d hn).2.2.1 c ch J] at H;cases H)
  (fun c ch J bH _=>by
   have O:=vi c ch J bH;rw[kv c ch O];exact Holds.cj qu (fun _ _=>rfl) (at0 _) ch (fun _ _=>rfl) (c' c ch O))
  (fun c ch J bH b O=>by
   have vk:=vi c ch J bH;rw[kv c ch vk] at O;obtain⟨af,_,br⟩:=ax c ch vk b O;refine⟨af,br.imp (fun⟨gU,cB,E,G⟩=>⟨gU,cB,eX E,.inl (gf.2 ⟨cB,E⟩),G⟩) id⟩)
  (fun c cn ch ch' b J c3 kV jr a6 O c8=>by
   have E:=vi c ch J kV;have G:=vi cn ch' c3 jr;rw[kv c ch E] at O;rw[kv cn ch' G] at c8;exact hU c cn ch ch' b E G a6 O c8)
 refine cR _ _ ⟨kN.trans hn,kO.trans H,ρ',cS,bH,(au.mono aY fun s d H=>dl d fun hn=>by rw[(o6 d hn).1 s] at H;cases H).kP (fun e U=>by rw[hn];exact bv e U) (cx.mono qu _ _ (fun _ _=>rfl) dG)⟩
def Q1 {f:aI9} {c:Call} {xs:aJ8} (ai:o.op= .call c) (E:c.callee= .value (.func f)) (G:c.args.toList=xs) (h:ye P f (xs.map (a1 K)) ids K B k):cM P N ids o K B k:=by
 have mem: ∀aH∈xs,aH∈o.op.operands:=fun aH aM=>by
  rw[ai];simp only[Op.operands,Call.operands,aB5];exact .inr (aC0.1 (by rw[G];exact aM))
 exact CZ mem (fun K' ρ I a w g1 au=>⟨xs.map a.eval,fun fP=>Q0 fP ai E G rfl,aD9,Au mem g1 au⟩) h
def Q2 {ρ:Nat->bp} {I:Nat->Prop} {w:aH9}: ∀(aE:List aN) (l:List kL) (us:aH7),yg aE=some l->us.length=aE.length->(∀(i:Nat) (v:aN) (x:aI8),aE[i]? =some v->us[i]? =some x->cx ρ I w v x)->h5 ρ I w l us
 | [],l,us,h,al,_=>by
  simp only[yg,at5] at h;subst h;exact aw5 al
 |v::aE,l,[],h,al,_=>by simp at al
 |v::aE,l,u::us,h,al,H=>by
  have bk:=fun r aj=>Q2 aE r us aj (by simpa using al) (fun i v x aB hx=>H (i+1) v x aG0 aG7)
  have ar:=H 0 v u rfl rfl;unfold yg at h
  split at h
  .rename_i e;simp at e
  .rename_i c o sK e;injection e with af ao
   subst af ao
   split at h
   .rename_i r aj;injection h with h
    subst h;exact⟨u,us,rfl,ar,bk r aj⟩
   .cases h
  .rename_i x sK e;injection e with af ao
   subst af ao
   split at h
   .rename_i r aj;injection h with h
    subst h;exact⟨u,us,rfl,ar,bk r aj⟩
   .cases h
  .cases h
def aa8 {f:aI9} {fs cs:Array Operand} (ai:o.op= .makeFunc (.func f) fs cs) (h:match fs.toList,yg (cs.toList.map (a1 K)) with
  | [],some l=>k (.c (.one (.c2 f l))) bC
  |_,_=>False):cM P N ids o K B k:=by
 split at h
 .rename_i l wO al
  have mem: ∀aH∈cs.toList,aH∈o.op.operands:=fun aH aM=>by
   rw[ai];simp only[Op.operands,aB5];exact .inr (aC0.1 aM)
  refine cM.of h <| bx.val fun K' B' g1 g2 C ρ F a w ak au=>?_
  have aa9:fs= #[]:=Array.toList_eq_nil_iff.1 wO
  refine⟨.func (.func f) #[] (List.toArray (cs.toList.map a.eval)),(by
   have e:cs.map a.eval=List.toArray (cs.toList.map a.eval):=ay4.1 aD9;simp[execOp,ai,Instr.makeFunc,aa9,e]),_,rfl,?_⟩
  exact Q2 _ l _ al aD9 (Au mem g1 au)
 .exact h.elim
def Kr {ev:Operand->Value} {f:aI9} {c:Call} {x:aI2} {xs:aJ8} {cs:aH7} {w:aH9} (hf:jp P f=true) (ai:o.op= .call c) (E:c.callee= .value x) (G:c.args.toList=xs) (vh:ev x= .func (.func f) #[] (List.toArray cs)):(execOp ev o).run P w= .ok (.enter f (xs.map ev++cs).toArray) w:=by
 have e6:c.args=xs.toArray:=by rw[<-G]
 obtain⟨rC,args,ct⟩:=c;simp only at E e6;subst E e6;unfold jp at hf
 split at hf
 .rename_i fn kw;simp only[av3,ax5,beq_eq_false_iff_ne] at hf;have G: ¬fn.body=none:=fun e=>by rw[e] at hf;simp at hf
  simp[execOp,ai,resolve,invoke,vh,Deferred.ofValue,callFunc,go_sem,kw];rw[mu hf.1,mu G]
 .cases hf
def h5.b0 {ρ:Nat->bp} {I:Nat->Prop} {w:aH9}: ∀(l:List kL) (aE:aH7),h5 ρ I w l aE->aE.length=(n' l).length/\ ∀(i:Nat) (v:aN) (x:aI8),(n' l)[i]? =some v->aE[i]? =some x->cx ρ I w v x
 | [],aE,h=>by rw[show aE=[] from h];exact⟨rfl,fun i v x aB=>by simp[n'] at aB⟩
 | .p c o::l,_,⟨v,r,e,E,G⟩=>by
  subst e;obtain⟨g1,g2⟩:=h5.b0 l r G;refine⟨by simp[n',g1],fun i u x aZ hx=>?_⟩
  match i with
  |0=>
   simp only[n',au4,at5] at aZ hx;subst aZ hx;exact E
  |i+1=>exact g2 i u x (by simpa[n'] using aZ) aG7
 | .d y::l,_,⟨v,r,e,E,G⟩=>by
  subst e;obtain⟨g1,g2⟩:=h5.b0 l r G;refine⟨by simp[n',g1],fun i u x aZ hx=>?_⟩
  match i with
  |0=>
   simp only[n',au4,at5] at aZ hx;subst aZ hx;exact E
  |i+1=>exact g2 i u x (by simpa[n'] using aZ) aG7
def aa' {f:aI9} {c:Call} {t:Nat} {l:List kL} {xs:aJ8} (ai:o.op= .call c) (E:c.callee= .value (.tmp t)) (G:c.args.toList=xs) (al:dX K t= .c (.one (.c2 f l))) (h:ye P f (xs.map (a1 K)++n' l) ids K B k):cM P N ids o K B k:=by
 have mem: ∀aH∈xs,aH∈o.op.operands:=fun aH aM=>by
  rw[ai];simp only[Op.operands,Call.operands,aB5];exact .inr (aC0.1 (by rw[G];exact aM))
 have yu:Operand.tmp t∈o.op.operands:=by
  rw[ai];simp only[Op.operands,Call.operands,aB5,E];exact .inl aD9
 refine CZ mem (fun K' ρ I a w g1 au=>?_) h;have aB:=au (t);have Z:dX K' t=dX K t:=g1 (.tmp t) yu;rw[Z,al] at aB;obtain⟨aE,e,J⟩:=aB;obtain⟨cr,cv⟩:=h5.b0 l aE J;refine⟨xs.map a.eval++aE,fun fP=>Kr fP ai E G e,by simp[cr],fun i v x aB hx=>?_⟩
 by_cases hi:i < xs.length
 .rw[av8 (by simpa using hi)] at aB hx;exact Au mem g1 au i v x aB hx
 .rw[aw4 aF5] at aB hx;simp only[au3] at aB hx;exact cv _ v x aB hx
def Q3: ∀bs:aH4,(rq bs).length=(u3 bs).length
 | []=>rfl
 |b::l=>by simp[rq,u3,Q3 l]
def Q4 {ρ:Nat->bp} {I:Nat->Prop} {w:aH9}: ∀(bs:aH4) (i:Nat) (u:aN) (x:aI8),(u3 bs)[i]? =some u->(rq bs)[i]? =some x->cx ρ I w u x
 | [],i,u,x,aZ,_=>by simp[u3] at aZ
 |b::l,0,u,x,aZ,hx=>by
  simp only[u3,rq,au4,at5] at aZ hx;subst aZ hx;exact rfl
 |b::l,i+1,u,x,aZ,hx=>by
  simp only[u3,rq,aC4] at aZ hx;exact Q4 l i u x aZ hx
def aba {c:Call} {t:Nat} {y:Nat×aH4} {xs:aJ8} (ai:o.op= .call c) (E:c.callee= .value (.tmp t)) (G:c.args.toList=xs) (al:dX K t= .c (.one (.d (.fn y)))) (h:ye P y.1 (xs.map (a1 K)++u3 y.2) ids K B k):cM P N ids o K B k:=by
 have mem: ∀aH∈xs,aH∈o.op.operands:=fun aH aM=>by
  rw[ai];simp only[Op.operands,Call.operands,aB5];exact .inr (aC0.1 (by rw[G];exact aM))
 have yu:Operand.tmp t∈o.op.operands:=by
  rw[ai];simp only[Op.operands,Call.operands,aB5,E];exact .inl aD9
 refine CZ mem (fun K' ρ I a w g1 au=>?_) h;have aB:=au (t);have Z:dX K' t=dX K t:=g1 (.tmp t) yu;rw[Z,al] at aB;have e:a.tmps.getD t undef= .func (.func y.1) #[] (List.toArray (rq y.2)):=aB;refine⟨xs.map a.eval++rq y.2,fun fP=>Kr fP ai E G e,by simp[Q3],fun i v x aB hx=>?_⟩
 by_cases hi:i < xs.length
 .rw[av8 (by simpa using hi)] at aB hx;exact Au mem g1 au i v x aB hx
 .rw[aw4 aF5] at aB hx;simp only[au3] at aB hx;exact Q4 _ _ v x aB hx
def abb (bl:d6 P aQ) {T:aI3} {x:aI2} {c:Call} (ai:o.op= .call c) (eW:c.callee= .builtin .len) (e3:c.args.toList=[x]) (li:c.argTypes.toList=[T]) (h:match JQ aQ T B (a1 K x) with
  |some (n,jo)=>k (.c (.one (.d (.int .i64 (n:Int))))) ⟨jo,[],[]⟩
  |none=>False):cM P N ids o K B k:=by
 have e6:c.args= #[x]:=ay4.1 e3;have iN:c.argTypes= #[T]:=ay4.1 li;obtain⟨rC,args,ct⟩:=c;simp only at eW e6 iN;subst eW e6 iN;have m1:x∈o.op.operands:=aE8
 have run: ∀{ev:Operand->Value} {w:aH9} {A:Option Addr} {n cap:Nat} {e:Nat},ev x= .slice A n cap->P.underlying T=some (.slice e)->(execOp ev o).run P w= .ok (.value (.int .i64 (n:Int))) w:=fun {ev w A n cap e} E cq=>by
  simp[execOp,ai,E,resolve,invoke,builtin,Builtin.len_,run_underlying cq,goInt]
 split at h
 .rename_i n jo hn;refine cM.of h ?_;unfold JQ at hn
  split at hn
  .rename_i s hx
   split at hn
   .rename_i bR;injection hn with hn
    injection hn with af ao
    subst af ao;refine bx.one hx m1 fun K' ρ I a w au e=>⟨_,?_,rfl⟩
    simp[execOp,ai,au.str e,resolve,invoke,builtin,Builtin.len_,run_underlying (FW bl bR),goInt,u9]
   .cases hn
  .rename_i u xs hx
   split at hn
   .rename_i p U;obtain⟨aZ,_⟩:=oe bl (e:=p.1) (te:=p.2) U;injection hn with hn
    injection hn with af ao
    subst af ao;refine bx.one hx m1 fun K' ρ I a w au e=>?_
    obtain⟨A,cap,br,_⟩:=au.b' e;injection br with br
    exact⟨_,run br aZ,rfl⟩
   .cases hn
  .rename_i hx
   split at hn
   .rename_i p U;obtain⟨aZ,_⟩:=oe bl (e:=p.1) (te:=p.2) U;injection hn with hn
    injection hn with af ao
    subst af ao;exact bx.one hx m1 fun K' ρ I a w au e=>⟨_,run (au.dC e) aZ,rfl⟩
   .cases hn
  .rename_i mr hx
   split at hn
   .rename_i p U;obtain⟨aZ,_⟩:=oe bl (e:=p.1) (te:=p.2) U
    split at hn
    .rename_i cc u xs al;injection hn with hn
     injection hn with af ao
     subst af ao;refine bx.val fun K' B' g1 g2 C ρ F a w ak au=>?_
     obtain⟨bg,j7,cs,dV,_⟩:=ak.holds mr _ ((g2 mr aD9).trans al);have dq:=au.own ((g1 x m1).trans hx);obtain⟨_,A,cap,aB,_⟩:=hS.tN dV;exact⟨_,run (dq.trans aB) aZ,rfl⟩
    .cases hn
   .cases hn
  .rename_i mr hx
   split at hn
   .rename_i p bR
    split at hn
    .rename_i aF aJ es al;injection hn with hn
     injection hn with af ao
     subst af ao;refine bx.val fun K' B' g1 g2 C ρ F a w ak au=>?_
     obtain⟨bg,bT,bY,O,aC,de⟩:=ak.holds mr _ ((g2 mr aD9).trans al);have dq:=au.mp ((g1 x m1).trans hx);refine⟨.int .i64 (es.length:Int),?_,rfl⟩;rw[<-CG aC];simp[execOp,ai,dq,resolve,invoke,builtin,Builtin.len_,run_underlying (F0 bl (kt:=p.1) (et:=p.2) bR),goInt,az1 O]
    .cases hn
   .cases hn
  .cases hn
 .exact h.elim
def Q5 {x y:aI2} {c:Call} {bi:Builtin} (abc:bi= .min\/bi= .max) (ai:o.op= .call c) (eW:c.callee= .builtin bi) (e3:c.args.toList=[x,y]) (h:match a1 K x,a1 K y with
  | .c (.one (.d (.int .i64 a))),.c (.one (.d (.int .i64 b)))=>k (.c (.one (.d (.int .i64 (if bi= .min then min a b else max a b))))) bC
  |_,_=>False):cM P N ids o K B k:=by
 have e6:c.args= #[x,y]:=ay4.1 e3;obtain⟨rC,args,ct⟩:=c;simp only at eW e6;subst eW e6;have m1:x∈o.op.operands:=aE8
 have m2:y∈o.op.operands:=aE8
 split at h
 .rename_i a b hx aD;refine cM.of h <| bx.two hx aD m1 m2 fun K' ρ I fq w au af ao=>⟨_,?_,rfl⟩
  rcases abc with rfl |rfl
  .have e:(if b < a then b else a)=min a b:=by rw[Int.min_def];split <;>split <;>omega
   simp[execOp,ai,au.int af,au.int ao,resolve,invoke,builtin,run_min_int2,e]
  .have e:(if b >a then b else a)=max a b:=by rw[Int.max_def];split <;>split <;>omega
   simp only[gt_iff_lt] at e;simp[execOp,ai,au.int af,au.int ao,resolve,invoke,builtin,run_max_int2,e]
 .exact h.elim
def mq.bool {P:aI0} {T:Nat} {ti:b8} {i:aJ3} {d:aJ4} (h:mq P T ti i d) (Z:ti.kd= .bool):P.underlying T=some .bool:=by
 have:=h.kd;rw[Z] at this;rw[h.oc]
 cases d <;>simp[tU] at this⊢
def Q6 (bl:d6 P aQ) {T:Nat} (h:FC aQ T=true):P.underlying T=some .bool:=by
 unfold FC at h
 split at h
 .rename_i ti gW
  split at h
  .rename_i Z;obtain⟨_,_,bu⟩:=bl.at_ gW;exact bu.bool Z
  .cases h
 .cases h
def Q7 (bl:d6 P aQ) {T:Nat} (h:JO aQ T=true): ∃e,P.underlying T=some (.pointer e):=by
 unfold JO at h
 split at h
 .rename_i ti gW
  split at h
  .rename_i e Z;obtain⟨_,_,bu⟩:=bl.at_ gW;exact⟨e,bu.ptr Z⟩
  .cases h
 .cases h
def Q8 (bl:d6 P aQ) {T:Nat} (h:Ae aQ T=true): ∃e i,P.underlying T=some (.pointer e)/\P.info? e=some i/\i.size≠0:=by
 unfold Ae at h
 split at h
 .rename_i ti gW
  split at h
  .rename_i e Z
   split at h
   .rename_i te wM;obtain⟨_,_,bu⟩:=bl.at_ gW;obtain⟨i,_,t2⟩:=bl.at_ wM;exact⟨e,i,bu.ptr Z,t2.jK,by rw[t2.size];exact t2.pos⟩
   .cases h
  .cases h
 .cases h
def F7 (h:CJ P ids o K B k):cM P N ids o K B k:=by obtain⟨v,e,E,G,ah⟩:=h;rw[sF] at ah;exact⟨v,e,ah,E N,F6 G⟩
def abd (bl:d6 P aQ) (h:J3 P aQ ids o K B k):cM P N ids o K B k:=by
 unfold J3 at h
 split at h
 .exact Qx (.inl ‹_›) h
 .exact Qx (.inr ‹_›) h
 .exact ZT ‹_› h
 .rename_i op T x y gc ai;have rG:(∃v,k v bC/\bx P N ids o K B v bC)->cM P N ids o K B k:=fun⟨v,E,G⟩=>cM.of E G
  split at h
  .rename_i bR;exact rG (Qs ai (fun T=>Q8 bl) (Q7 bl bR) h)
  .rename_i bR;exact rG (Qs ai (fun T=>Q8 bl) (Q7 bl bR) h)
  .split at h
   .exact h.elim
   .exact h.elim
   .rename_i hx
    split at h
    .rename_i O;exact rG (Qt ai (Q6 bl O) (.inl hx) h)
    .exact h.elim
   .rename_i hx
    split at h
    .rename_i O;exact rG (Qt ai (Q6 bl O) (.inr hx) h)
    .exact h.elim
   .rename_i E G _ _;exact rG (Qq ai (.inr fun c d=>⟨E c d,G _⟩) h)
  .exact h.elim
 .exact ZU ‹_› h
 .exact ZV ‹_› h
 .exact ZW ‹_› h
 .exact ZX bl ‹_› h
 .exact ZZ bl ‹_› h
 .exact Z9 bl ‹_› h
 .exact aab bl ‹_› h
 .exact aac bl ‹_› h
 .exact aaf bl ‹_› h
 .rename_i T bF ai
  split at h
  .rename_i l3;exact aao bl ai h l3
  .exact h.elim
 .rename_i T n bF hn ai;exact aaq bl ai hn h
 .exact aar bl ‹_› h
 .exact aas bl ‹_› h
 .rename_i ai
  split at h
  .rename_i hx;exact aay bl ai hx h
  .rename_i c o hx
   split at h
   .rename_i abe;have:=at8 abe;subst this;exact aaH bl ai hx h
   .exact h.elim
  .exact aau bl ai h
 .exact aaG bl ‹_› h
 .exact aav bl ‹_› h
 .exact aaD bl ‹_› h
 .exact aaE bl ‹_› h
 .exact aaK bl ‹_› h
 .exact aa8 ‹_› h
 .exact aaM bl ‹_› h
 .rename_i c ai
  split at h
  .rename_i f E;exact Q1 ai E rfl h
  .rename_i t E
   split at h
   .rename_i f l al;exact aa' ai E rfl al h
   .rename_i x al;exact aba ai E rfl al h
   .exact h.elim
  .rename_i x E G
   split at h
   .rename_i T bR;exact abb bl ai E G bR h
   .exact h.elim
  .rename_i x y E G
   split at h
   .rename_i T ew bR;exact aaF bl ai E G bR h
   .exact h.elim
  .rename_i x y E G;refine Q5 (bi:=.min) (.inl rfl) ai E G ?_;simp only[vj rfl];exact h
  .rename_i x y E G;refine Q5 (bi:=.max) (.inr rfl) ai E G ?_;simp only[reduceCtorEq,if_false];exact h
  .rename_i x y E G
   split at h
   .rename_i T ew bR
    split at h
    .exact F7 h
    .exact aa7 bl ai E G bR h
   .exact h.elim
  .rename_i x y E G
   split at h
   .rename_i T ew bR
    split at h
    .rename_i U;have:=at8 U;subst this;exact aaR bl ai E G bR h
    .exact aaZ bl ai E G bR h
   .exact h.elim
  .exact F7 h
 .exact F7 h
def Ks (bl:d6 P aQ) (h:FK P aQ ids o K B k):cM P N ids o K B k:=by
 unfold FK at h
 split at h
 .exact F7 h
 .exact abd bl h
end
end
end Go.Proofs.YtgclhiekndohdaaGreat
