/-
A part of the proof of this claim: lemmas, with no condition beyond what each says.
-/
import Derived.WalkKit
import Derived.WalkSpells
import Derived.WalkLawsBesides
import Derived.BigQuiet
import Derived.Deep.QuietTactic
import Derived.Deep.RegionHeld3
import Derived.Deep.AppendLies
import Derived.Deep.DrawnRows
import Derived.Maps.AppendAt
import Derived.Laws.CopyOwn
import Derived.Lib.ConvBytes
import Derived.Lib.Hide
import Derived.RangeFuncRecord
import Derived.OrdersIn
import Derived.TacticsIn
import Derived.Sort.LoopGhostIn
import Derived.MapKept
import Derived.ChangeMaps4
import Derived.Deep.MidRow
import Derived.Great.BuildSlice
import Derived.Laws.Small
import Derived.Lib.Strings
import Derived.Lib.AppendStr
set_option linter.all false
set_option maxRecDepth 100000
set_option maxHeartbeats 0
namespace Go.Proofs.YtkfbeijmgggkmaaGreat
abbrev gd:=@of_decide_eq_true
abbrev mu:=@if_neg
abbrev oj:=@of_decide_eq_false
abbrev vj:=@if_pos
abbrev as0:=@List.getElem?_eq_getElem
abbrev as1:=@Bool.and_eq_true
abbrev as2:=@Nat.le_refl
abbrev as3:=@absurd
abbrev as4:=@List.length_append
abbrev as5:=@congrArg
abbrev as6:=@List.mem_cons_of_mem
abbrev as7:=@List.getD_eq_getElem?_getD
abbrev as8:=@List.mem_cons
abbrev as9:=@Option.some.injEq
abbrev at0:=@List.getElem?_eq_some_iff
abbrev at1:=@Nat.eq_of_beq_eq_true
abbrev at2:=@Nat.zero_le
abbrev at3:=@List.length_take
abbrev at4:=@decide_eq_true
abbrev at5:=@List.length_replicate
abbrev at6:=@List.mem_cons_self
abbrev at7:=@List.mem_singleton
abbrev at8:=@List.length_map
abbrev at9:=@List.getElem?_cons_zero
abbrev au0:=@List.mem_map_of_mem
abbrev au1:=@List.map_cons
abbrev au2:=@Nat.lt_of_lt_of_le
abbrev au3:=@List.take_length
abbrev au4:=@List.mem_append
abbrev au5:=@Result.andThen_ok
abbrev au6:=@List.getElem?_append_right
abbrev au7:=@List.getElem?_append_left
abbrev au8:=@List.getElem?_map
abbrev au9:=@Bool.not_eq_true'
abbrev av0:=@List.mem_map
abbrev av1:=@List.map_congr_left
abbrev av2:=@List.getElem_mem
abbrev av3:=@List.all_eq_true
abbrev av4:=@List.contains_iff_mem
abbrev av5:=@List.nodup_cons
abbrev av6:=@decide_eq_true_eq
abbrev av7:=@decide_eq_false
abbrev av8:=@List.append_nil
abbrev av9:=@Option.isSome_iff_exists
abbrev aw0:=@List.take_of_length_le
abbrev aw1:=@List.append_assoc
abbrev aw2:=@List.map_append
abbrev aw3:=@Option.map_eq_some_iff
abbrev aw4:=@List.length_cons
abbrev aw5:=@Sem.run_bind
abbrev aw6:=@List.take_succ_eq_append_getElem
abbrev aw7:=@List.map_map
abbrev aw8:=@List.eq_nil_of_length_eq_zero
abbrev aw9:=@Nat.zero_add
abbrev ax0:=@Bool.or_eq_false_iff
abbrev ax1:=@List.getElem?_set_ne
abbrev ax2:=@Sem.run_pure
abbrev ax3:=@List.getElem?_take
abbrev ax4:=@List.length_drop
abbrev ax5:=@Nat.mul_le_mul_right
abbrev ax6:=@List.mem_of_getElem?
abbrev ax7:=@Decidable.byContradiction
abbrev ax8:=@List.getElem?_set_self
abbrev ax9:=@Nat.mul_le_mul
abbrev ay0:=@List.length_set
abbrev ay1:=@Array.toList_inj
abbrev ay2:=@MapKept.run_getObj_map
abbrev ay3:=@Bool.or_eq_true
abbrev ay4:=@Ne.symm
abbrev ay5:=@List.getElem_of_mem
abbrev ay6:=@List.drop_eq_getElem_cons
abbrev ay7:=@Option.map_some
abbrev ay8:=@Prod.mk.injEq
abbrev ay9:=@List.nodup_nil
abbrev az0:=@Int.toNat_natCast
abbrev az1:=@Option.getD_some
abbrev az2:=@Array.getElem?_setIfInBounds_ne
abbrev az3:=@Nat.succ_mul
abbrev az4:=@Nat.le_trans
abbrev az5:=@Nat.add_zero
abbrev az6:=@Bool.eq_false_iff
abbrev az7:=@Array.getD_eq_getD_getElem?
abbrev az8:=@Int.natCast_mul
abbrev az9:=@Array.getElem?_eq_some_iff
abbrev aA0:=@List.getElem?_set
abbrev aA1:=@Nat.le_of_ble_eq_true
abbrev aA2:=@Nat.mul_left_comm
abbrev aA3:=@List.ext_getElem?
abbrev aA4:=@Nat.div_lt_iff_lt_mul
abbrev aA5:=@List.getElem?_eq_none
abbrev aA6:=@Nat.lt_or_ge
abbrev aA7:=@List.getElem?_drop
abbrev aA8:=@Int.eq_ofNat_of_zero_le
abbrev aA9:=@Array.mem_append
abbrev aB0:=@List.take_add_one
abbrev aB1:=@Nat.pow_le_pow_right
abbrev aB2:=@Nat.mul_comm
abbrev aB3:=@Nat.eq_zero_or_pos
abbrev aB4:=@Bool.true_and
abbrev aB5:=@List.flatMap_cons
abbrev aB6:=@List.getElem?_replicate
abbrev aB7:=@Array.mem_toList_iff
abbrev aB8:=@Nat.not_lt_zero
abbrev aB9:=@List.mem_filter
abbrev aC0:=@List.getElem?_eraseIdx
abbrev aC1:=@List.mem_of_find?_eq_some
abbrev aC2:=@List.foldl_append
abbrev aC3:=@List.map_nil
abbrev aC4:=@Option.isNone_iff_eq_none
abbrev aC5:=@List.getElem?_cons_succ
abbrev aC6:=@List.nil_append
abbrev aC7:=@Int.ediv_nonneg
abbrev aC8:=@List.filterMap_cons
abbrev aC9:=@Int.ediv_le_ediv
abbrev aD0:=@Bool.not_eq_true
def aD1 {p:Prop} (h:p:=by omega):p:=h
def aD2 {p:Prop} (h:p:=by decide):p:=h
def aD3 {p:Prop} (h:p:=by simp):p:=h
def aD4 {p:Prop} (h:p:=by kernel_rfl):p:=h
def aD5 {p:Prop} (h:p:=by rfl):p:=h
def aD7 {p:Prop} (h:p:=by assumption):p:=h
def aD8 {p:Prop} (h:p:=by rw[ag];simp[Op.operands]):p:=h
def aD9 {p:Prop} (h:p:=by omega):p:=h
def aE0 {p:Prop} (h:p:=by simpa using h):p:=h
def aE1 {p:Prop} (h:p:=by cases h):p:=h
def aE2 {p:Prop} (h:p:=by rw[ag];simp[Op.operands,Call.operands]):p:=h
def aE3 {p:Prop} (h:p:=by simp;omega):p:=h
def aE4 {p:Prop} (h:p:=by rw[gE];decide):p:=h
def aE5 {p:Prop} (h:p:=by unfold b6;rw[H]):p:=h
def aE6 {p:Prop} (h:p:=by exact aD):p:=h
def aE7 {p:Prop} (h:p:=by rw[h'];intro h;cases h):p:=h
def aE8 {p:Prop} (h:p:=by rw[at3];omega):p:=h
def aE9 {p:Prop} (h:p:=by rw[hx];intro h;cases h):p:=h
def aF0 {p:Prop} (h:p:=by have:=oj J;omega):p:=h
def aF1 {p:Prop} (h:p:=by simpa using V):p:=h
def aF2 {p:Prop} (h:p:=by rw[ci,vj rfl]):p:=h
def aF3 {p:Prop} (h:p:=by simpa using az):p:=h
def aF4 {p:Prop} (h:p:=by have:=gd J;omega):p:=h
def aF5 {p:Prop} (h:p:=by simp[bE.has,Nat.beq_eq]):p:=h
def aF6 {p:Prop} (h:p:=by simp only[maxLen];omega):p:=h
def aF7 {p:Prop} (h:p:=by rw[cz];omega):p:=h
def aF8 {p:Prop} (h:p:=by exact oG hx):p:=h
def aF9 {p:Prop} (h:p:=by simp[aR] at V;exact V):p:=h
def aG0 {p:Prop} (h:p:=by rw[BitVec.toNat_ofInt];omega):p:=h
def aG1 {p:Prop} (h:p:=by simp at h;omega):p:=h
def aG2 {p:Prop} (h:p:=by simpa using E):p:=h
def aG3 {p:Prop} (h:p:=by rw[kx,aw];rfl):p:=h
def aG4 {p:Prop} (h:p:=by rw[h.eD.eY];exact J):p:=h
def aG5 {p:Prop} (h:p:=by simpa using hx):p:=h
def aG6 {p:Prop} (h:p:=by simp[U]):p:=h
def aG7 {p:Prop} (h:p:=by simpa using ak):p:=h
def aG8 {p:Prop} (h:p:=by rw[af];generalize 2 ^z=P at*;omega):p:=h
abbrev aG9:=List UInt8
abbrev aH0:=List Nat
abbrev aH3:=List (Nat×aG9)
abbrev aH4:=List Value
abbrev aH5:=World
abbrev aH6:=Program
abbrev aH8:=Operand
abbrev aI0:=TypeId
abbrev aI1:=Option Nat
abbrev aI2:=List Int
abbrev aI3:=Value
abbrev aI5:=FuncId
abbrev aI6:=List Oper
abbrev aI7:=List MapEntry
abbrev aI9:=TypeInfo
abbrev aJ0:=List aG9
abbrev aJ1:=TypeDesc
abbrev aJ2:=ByteArray
abbrev aJ3:=Array Value
abbrev aJ4:=List Operand
abbrev aJ5:=Nat×Nat
abbrev aJ6:=List (aG9×aG9)
abbrev aJ7:=List (Nat×Nat)
abbrev aJ8:=UInt8
end Go.Proofs.YtkfbeijmgggkmaaGreat
namespace Go.Proofs.YtkfbeijmgggkmaaGreat
open Go.RowKit Go.Proofs
section
structure cZ (S:Nat->Prop) (w w':aH5):Prop where
 os:w'.os=w.os
 tape:w'.tape=w.tape
 output:w'.output=w.output
 size:w.heap.size<=w'.heap.size
 block: ∀k,k < w.heap.size-> ¬S k->w'.heap[k]? =w.heap[k]?
def cZ.refl (S:Nat->Prop) (w:aH5):cZ S w w:=⟨rfl,rfl,rfl,as2 _,fun _ _ _=>rfl⟩
def cZ.trans {S:Nat->Prop} {a b c:aH5} (h:cZ S a b) {S':Nat->Prop} (k:cZ S' b c) (au: ∀i,i < a.heap.size->S' i->S i):cZ S a c:=
 ⟨k.os.trans h.os,k.tape.trans h.tape,k.output.trans h.output,az4 h.size k.size,
  fun i aE hn=>(k.block i (au2 aE h.size) (fun x=>hn (au i aE x))).trans (h.block i aE hn)⟩
def cZ.mono {S S':Nat->Prop} {w w':aH5} (h:cZ S w w') (au: ∀i,i < w.heap.size->S i->S' i):cZ S' w w':=
 ⟨h.os,h.tape,h.output,h.size,fun i aE hn=>h.block i aE (fun x=>hn (au i aE x))⟩
def cZ.pP {S:Nat->Prop} {w w':aH5} (h:Below w.heap.size w w'):cZ S w w':=
 ⟨h.os,h.tape,h.output,h.size,fun i aE _=>h.block i aE⟩
def cZ.below {S:Nat->Prop} {B:Nat} {w w':aH5} (h:cZ S w w') (cQ:B<=w.heap.size) (au: ∀i,i < B-> ¬S i):Below B w w':=
 ⟨h.os,h.tape,h.output,h.size,fun i aE=>h.block i aD1 (au i aE)⟩
def mr {w:aH5} {b:Nat} {o:Obj} (h:w.heap[b]? =some o):b < w.heap.size:=by
 rcases aA6 b w.heap.size with bv |ww
 .exact bv
 .rw[Array.getElem?_eq_none ww] at h;cases h
def gl (D:Nat->Prop) (w:aH5) (size:Nat) (v:aI3) (n:Nat) (xs:aH4):Prop:=
 xs.length=n*size/\ ∃A c,v= .slice A n c/\n<=c/\c<=maxLen/\
  (0 < n-> ∃b o,A=some ⟨b,o,none⟩/\D b/\b < w.heap.size/\ ∀j u,xs[j]? =some u->w.cell? ⟨b,o+j,none⟩=some u)
def tK (D:Nat->Prop) (w w':aH5):Prop:= ∀i,i < w.heap.size->D i->w'.heap[i]? =w.heap[i]?
def tK.refl (D:Nat->Prop) (w:aH5):tK D w w:=fun _ _ _=>rfl
def tK.cell {D:Nat->Prop} {w w':aH5} (h:tK D w w') {p:Addr} {v:aI3} (ae:w.cell? p=some v) (au:D p.block):w'.cell? p=some v:=
 (World.cell?_of_block (h p.block (World.block_lt_of_cell? w p ae) au)).trans ae
def tK.pP {D:Nat->Prop} {w w':aH5} (h:Below w.heap.size w w'):tK D w w':=fun i aE _=>h.block i aE
def gl.mono {D Cb:Nat->Prop} {w w':aH5} {size n:Nat} {v:aI3} {xs:aH4} (h:gl D w size v n xs) (Z:tK D w w') (hw:w.heap.size<=w'.heap.size) (H: ∀i,i < w.heap.size->D i->Cb i):gl Cb w' size v n xs:=by obtain⟨ak,A,c,rfl,E,G,ah⟩:=h;refine⟨ak,A,c,rfl,E,G,fun hn=>?_⟩;obtain⟨b,o,rfl,ce,O,J⟩:=ah hn;exact⟨b,o,rfl,H b O ce,aD1,fun j u V=>Z.cell (J j u V) ce⟩
def gl.nil (D:Nat->Prop) (w:aH5) (size:Nat):gl D w size (.slice none 0 0) 0 []:=⟨aD3,none,0,rfl,as2 _,aD2,fun h=>as3 h aD1⟩
def gl.at_ {D:Nat->Prop} {w:aH5} {size n:Nat} {v:aI3} {xs:aH4} (h:gl D w size v n xs) (hn:0 < n):
  ∃b o c,v= .slice (some ⟨b,o,none⟩) n c/\n<=c/\c<=maxLen/\D b/\b < w.heap.size/\ ∀j u,xs[j]? =some u->w.cell? ⟨b,o+j,none⟩=some u:=by
 obtain⟨ak,A,c,rfl,E,G,ah⟩:=h;obtain⟨b,o,rfl,ce,O,J⟩:=ah hn;exact⟨b,o,c,rfl,E,G,ce,O,J⟩
def ir (c:aJ8):Value:=.int .u8 c.toNat
def qs (D:Nat->Prop) (w:aH5) (v:aI3) (l:aG9):Prop:=gl D w 1 v l.length (l.map ir)
def qs.form {D:Nat->Prop} {w:aH5} {v:aI3} {l:aG9} (h:qs D w v l): ∃A c,v= .slice A l.length c/\l.length<=c/\c<=maxLen:=by obtain⟨_,A,c,rfl,E,G,_⟩:=h;exact⟨A,c,rfl,E,G⟩
def qt (b o j:Nat):(⟨b,o,none⟩:Addr).add j=⟨b,o+j,none⟩:=by
 unfold Addr.add
 split
 .rename_i h;subst h;rfl
 .rfl
def Y9 {P:aH6} (w:aH5) (base:Nat) (t ty e:aI0) (i:aI9) (size:Nat) (cm:P.underlying t=some (.slice e)) (aE:P.info? e=some i)
  (v:aI3) (n:Nat) (xs:aH4) (dN:w.ownsRow base e size v n xs) (c:Nat):(Builtin.append_ #[t,t] ty #[v,.slice none 0 c]).run P w= .ok v w:=by
 rcases dN.2 with⟨rfl,rfl⟩ |⟨g,cap,dm,rfl,_,_,E9,_⟩
 .simp[Builtin.append_,run_underlying cm,sizeOf,typeInfo,aE,Builtin.lenOf,Builtin.firstCells]
 .simp[Builtin.append_,run_underlying cm,sizeOf,typeInfo,aE,Builtin.lenOf,Builtin.firstCells,E9,storeCells]
def Jc {P:aH6} (w:aH5) (base:Nat) (t ty e:aI0) (i:aI9) (aB:aI3) (size bytes:Nat) (cm:P.underlying t=some (.slice e)) (aE:P.info? e=some i) (aN:i.zero=some aB)
  (zS:i.size=size) (uM:i.bytes=bytes) (oc:aB.cells.size=size) (cz:0 < size)
  (v:aI3) (n:Nat) (xs:aH4) (dN:w.ownsRow base e size v n xs)
  (D:Nat->Prop) (iu:aI3) (m:Nat) (e7:aH4) (ax:gl D w size iu m e7) (E: ∀u∈e7,u.oneCell'=true)
  (Cc:n+m<=maxLen) (Cd:(n+m)*bytes<=140737488355328) (Ce:base<=w.heap.size):
  ∃dr w',(Builtin.append_ #[t,t] ty #[v,iu]).run P w= .ok dr w'/\w'.ownsRow base e size dr (n+m) (xs++e7)/\w.grownBy w' v.ownBlock/\
   (dr.ownBlock=v.ownBlock\/dr.ownBlock=some w.heap.size):=by
 obtain⟨ak,A,c,rfl,_,_,ah⟩:=ax;rcases A with _ |ad
 .have ay:m=0:=by
   rcases aB3 m with aw |aw
   .exact aw
   .obtain⟨b,o,h,_⟩:=ah aw
    cases h
  subst ay;have hn:e7=[]:=aw8 aG7;subst hn;exact⟨v,w,Y9 w base t ty e i size cm aE v n xs dN c,by simpa using dN,World.grownBy.refl w _,.inl rfl⟩
 .have xP: ∀j u,e7[j]? =some u->w.cell? (ad.add j)=some u:=by
   intro j u a6;rcases aB3 m with aw |aw
   .subst aw;have hn:e7=[]:=aw8 aG7;subst hn;simp at a6
   .obtain⟨b,o,h,_,_,J⟩:=ah aw;injection h with h
    subst h;rw[qt];exact J j u a6
  obtain⟨dr,w',d3,G,aW,_,bM⟩:=run_append_own_at (P:=P) w base t ty e i aB size bytes cm aE aN zS uM oc cz v n xs dN ad m c e7 ak xP E Cc Cd Ce;exact⟨dr,w',d3,G,aW,bM⟩
def Y' {P:aH6} (w:aH5) {o:Oper} {a:Act} {K:Act->World->Prop} {Q:Exit->Act->World->Prop} (s x:aH8) (t:aI0)
  (ag:o.op= .call {callee:=.builtin .append,args:= #[s,x],argTypes:= #[t,t]})
  (base:Nat) (e:aI0) (aB:aI3) (size bytes:Nat) (cm:P.underlying t=some (.slice e)) (qu:(P.info? e).map (fun i=>(i.zero,i.size,i.bytes))=some (some aB,size,bytes)) (oc:aB.cells.size=size) (cz:0 < size)
  (v:aI3) (n:Nat) (xs:aH4) (au:a.eval s=v) (dN:w.ownsRow base e size v n xs)
  (D:Nat->Prop) (iu:aI3) (m:Nat) (e7:aH4) (hx:a.eval x=iu) (ax:gl D w size iu m e7) (E: ∀u∈e7,u.oneCell'=true)
  (Cc:n+m<=maxLen) (Cd:(n+m)*bytes<=140737488355328) (Ce:base<=w.heap.size)
  (h: ∀dr w',w'.ownsRow base e size dr (n+m) (xs++e7)->w.grownBy w' v.ownBlock->(dr.ownBlock=v.ownBlock\/dr.ownBlock=some w.heap.size)->K (a.put o.dst dr) w'):o.wp P a w K Q:=by
 obtain⟨i,aE,aN,zS,uM⟩:=info_parts qu;obtain⟨dr,w',d3,G,ah,aW⟩:=Jc (P:=P) w base t o.type e i aB size bytes cm aE aN zS uM oc cz v n xs dN D iu m e7 ax E Cc Cd Ce;unfold Oper.wp execOp;simp only[ag,resolve,invoke,builtin,aw5,ax2,au5,List.map_toArray,au1,aC3,au,hx,d3];exact h dr w' G ah aW
def Pz {P:aH6} (w:aH5) {dn:Array Oper} {rest:aI6} {o:Oper} {a:Act} {Q:Exit->Act->World->Prop} (od:o.guard=none) (s x:aH8) (t:aI0)
  (ag:o.op= .call {callee:=.builtin .append,args:= #[s,x],argTypes:= #[t,t]})
  (base:Nat) (e:aI0) (aB:aI3) (size bytes:Nat) (cm:P.underlying t=some (.slice e)) (qu:(P.info? e).map (fun i=>(i.zero,i.size,i.bytes))=some (some aB,size,bytes)) (oc:aB.cells.size=size) (cz:0 < size)
  (v:aI3) (n:Nat) (xs:aH4) (au:a.eval s=v) (dN:w.ownsRow base e size v n xs)
  (D:Nat->Prop) (iu:aI3) (m:Nat) (e7:aH4) (hx:a.eval x=iu) (ax:gl D w size iu m e7) (E: ∀u∈e7,u.oneCell'=true)
  (Cc:n+m<=maxLen) (Cd:(n+m)*bytes<=140737488355328) (Ce:base<=w.heap.size)
  (h: ∀dr w',w'.ownsRow base e size dr (n+m) (xs++e7)->w.grownBy w' v.ownBlock->(dr.ownBlock=v.ownBlock\/dr.ownBlock=some w.heap.size)->wpList P dn Q rest (a.put o.dst dr) w'):wpList P dn Q (o::rest) a w:=
 wpList_plain od fun _ cE=>Y' w s x t ag base e aB size bytes cm qu oc cz v n xs au dN D iu m e7 hx ax E Cc Cd Ce fun dr w' G ah aW=>cE _ _ (h dr w' G ah aW)
def PA (l:aG9): ∀u∈l.map ir,u.oneCell'=true:=by intro u a6;obtain⟨c,_,rfl⟩:=av0.1 a6;rfl
def gl.sA {w:aH5} {base:Nat} {e:aI0} {size n:Nat} {v:aI3} {xs:aH4} (h:w.ownsRow base e size v n xs):gl (fun i=>v.ownBlock=some i) w size v n xs:=by
 refine⟨h.1,?_⟩;rcases h.2 with⟨rfl,rfl⟩ |⟨g,cap,dm,rfl,aU,bd,E,G,ah,aW⟩
 .exact⟨none,0,rfl,as2 _,aD2,fun h=>as3 h aD1⟩
 .refine⟨_,cap,rfl,E,G,fun _=>⟨g,0,rfl,rfl,(h.lt g rfl).2,fun j u V=>?_⟩⟩;have:=h.cells (g:=g) rfl j u V
  rwa[qt] at this
def gl.zT {D Cb:Nat->Prop} {w:aH5} {size n:Nat} {v:aI3} {xs:aH4} (h:gl D w size v n xs) (H: ∀i,i < w.heap.size->D i->Cb i):gl Cb w size v n xs:=h.mono (tK.refl _ _) (as2 _) H
def eP {W d9:aH5} (O:Below W.heap.size W d9) {p:Addr} {v:aI3} (h:W.cell? p=some v):d9.cell? p=some v:=
 (O.cell (World.block_lt_of_cell? W p h)).trans h
def gl.below {D:Nat->Prop} {w w':aH5} {size n:Nat} {v:aI3} {xs:aH4} (h:gl D w size v n xs) (O:Below w.heap.size w w'):gl D w' size v n xs:=
 h.mono (tK.pP O) O.size fun _ _ h=>h
def tL (w:aH5) (o:Obj):Below w.heap.size w (w.alloc o):=(Below.refl _ _).alloc (as2 _) _
def Za (w:aH5):Below w.heap.size w w.drew:=(Below.refl _ _).drew
def aT (B:Nat) (v:aI3):Nat->Prop:=fun i=>B<=i/\v.ownBlock≠some i
def PB {w w':aH5} {row:aI1} {S:Nat->Prop} (aU:w.grownBy w' row) (ax: ∀k,row=some k->S k):cZ S w w':=
 ⟨aU.os,aU.tape,aU.output,aU.size,fun k Z hn=>aU.block k Z (fun e=>hn (ax k e.symm))⟩
def Zb {D:Nat->Prop} {w:aH5} {m:Nat} {iu:aI3} {ys:aH4} (h:gl D w 1 iu m ys) (uN:Nat):
  ∃sp E',iu= .slice sp m E'/\(ys.take uN).length=Nat.min m uN/\(0 < (ys.take uN).length-> ∃ad,sp=some ad/\ ∀j v,(ys.take uN)[j]? =some v->w.cell? (ad.add j)=some v):=by
 obtain⟨ak,A,c,rfl,_,_,ah⟩:=h;have qv:ys.length=m:=aD9
 have Cf:(ys.take uN).length=Nat.min m uN:=by rw[at3,qv];exact Nat.min_comm _ _
 refine⟨A,c,rfl,Cf,fun ae=>?_⟩
 have ay:0 < m:=by
  have:=Nat.min_le_left m uN;have e:min m uN=Nat.min m uN:=rfl;omega
 obtain⟨b,o,rfl,_,_,J⟩:=ah ay;refine⟨_,rfl,fun j v V=>?_⟩;rw[qt];refine J j v ?_;rw[ax3] at V
 split at V
 .exact V
 .cases V
def Zc {P:aH6} (w:aH5) (iu dst e:aI0) (s:aJ2) (au:P.underlying iu=some .string) (H:P.underlying dst=some (.slice e)) (U:P.underlying e=some (.int .u8)) (ay:s.size<=4294967296):
  ∃cap d9,(convert iu dst (.string s)).run P w= .ok (.slice (some ⟨w.heap.size,0,none⟩) s.size cap) d9/\qs (fun i=>w.heap.size<=i) d9 (.slice (some ⟨w.heap.size,0,none⟩) s.size cap) s.data.toList/\Below w.heap.size w d9:=by
 refine⟨_,_,Lib.run_convert_string_bytes w iu dst e s au H U,?_,?_⟩
 .have ak:s.data.toList.length=s.size:=by simp
  unfold qs;rw[ak];refine⟨by rw[at8,ak];omega,_,_,rfl,grownCap_ge _ _ _ _,grownCap_le_maxLen _ _ _ _ aF6,fun _=>⟨_,0,rfl,as2 _,by rw[Lib.bytesWorld_size];omega,fun j u V=>?_⟩⟩
  have sB:j < s.data.toList.length:=by
   have:=(at0.1 V).1;simpa using this
  rw[aw9,Lib.bytesWorld_cell w e s j aD1];rw[au8,as0 sB] at V;simp only[ay7,as9] at V;rw[<-V,as7,as0 sB];rfl
 .exact⟨rfl,rfl,rfl,by rw[Lib.bytesWorld_size];omega,fun k Z=>Lib.bytesWorld_at_old w e s k Z⟩
def PC {P:aH6} {D:Nat->Prop} {w:aH5} {A:Option Addr} {n c:Nat} {l:aG9} (h:qs D w (.slice A n c) l) (iu dst e:aI0) (au:P.underlying iu=some (.slice e)) (U:P.underlying e=some (.int .u8)) (H:P.underlying dst=some .string):
  (convert iu dst (.slice A n c)).run P w= .ok (.string ⟨l.toArray⟩) w:=by
 obtain⟨ak,A',ca,az,_,_,ah⟩:=h;injection az with af ao bo
 subst af ao bo;rcases A with _ |ad
 .have aw:l=[]:=by
   rcases aB3 l.length with h |h
   .exact aw8 h
   .obtain⟨b,o,ha,_⟩:=ah h;cases ha
  subst aw;exact run_convert_bytes_nil w iu e au U _ _ dst H
 .refine run_convert_bytes_back w iu dst e ad _ l au U H fun j V=>?_
  obtain⟨b,o,ha,_,_,J⟩:=ah aD1;injection ha with ha
  subst ha;rw[qt];exact J j _ (by simp[as0 V,ir])
def Jd {w:aH5} (o:Obj) {g:Nat} (h:g=w.heap.size):(w.alloc o).heap[g]? =some o:=by subst h;exact heap_alloc_new w o
end
section
inductive bB where
 |int (k:IntKind)
 |u8
 |bool
 |str
 |aM
 |dz
 |fn
 |cc (u:bB)
 |bU (u v:bB)
 |arr (n:Nat) (u:bB)
def aa:bB->Type
 | .int _=>Int
 | .u8=>UInt8
 | .bool=>Bool
 | .str=>aG9
 | .aM=>Option Nat
 | .dz=>Option (Nat×Nat×Nat)
 | .fn=>Nat×aH0
 | .cc u=>List (aa u)
 | .bU u v=>aa u×aa v
 | .arr _ u=>List (aa u)
def aR:bB->Nat
 | .int _=>1
 | .u8=>1
 | .bool=>1
 | .str=>1
 | .aM=>1
 | .dz=>1
 | .fn=>1
 | .cc _=>1
 | .bU u v=>aR u+aR v
 | .arr n u=>n*aR u
def cR:(u:bB)->aa u
 | .int _=>(0:Int)
 | .u8=>(0:aJ8)
 | .bool=>false
 | .str=>([]:aG9)
 | .aM=>(none:aI1)
 | .dz=>(none:Option (Nat×Nat×Nat))
 | .fn=>((0,[]):Nat×aH0)
 | .cc _=>[]
 | .bU u v=>(cR u,cR v)
 | .arr n u=>List.replicate n (cR u)
inductive D where
 |int (k:IntKind) (n:Int)
 |lit (b:Bool)
 |bool (b:Bool)
 |str (s:aG9)
 |aM (x:aI1)
 |dz (x:Option (Nat×Nat×Nat))
 |fn (x:Nat×aH0)
 |bG (u:bB) (xs:List (aa u))
def fS:(u:bB)->aa u->Nat->D
 | .int k,n,_=>.int k n
 | .u8,b,_=>.int .u8 (UInt8.toNat b:Int)
 | .bool,b,_=>.bool b
 | .str,s,_=>.str s
 | .aM,x,_=>.aM x
 | .dz,x,_=>.dz x
 | .fn,x,_=>.fn x
 | .cc u,xs,_=>.bG u xs
 | .bU u v,p,j=>match Nat.blt j (aR u) with
  |true=>fS u p.1 j
  |false=>fS v p.2 (j - aR u)
 | .arr _ u,xs,j=>fS u (List.getD xs (j/aR u) (cR u)) (j % aR u)
def fd {α:Type} (xs:List α) (i:Nat):Option α:=xs[i]?
def Fa {α:Type} (x:α) (xs:List α):Prop:=x∈xs
def Zd {α:Type} (xs:List α) (i:Nat) (d:α) (h:i < xs.length):fd xs i=some (xs.getD i d):=by unfold fd;rw[as7,as0 h];rfl
def Ze {α:Type} {xs:List α} {i:Nat} {y:α} (d:α) (h:fd xs i=some y):xs.getD i d=y:=by unfold fd at h;rw[as7,h];rfl
def Cg {α:Type} {xs:List α} {i:Nat} {y:α} (h:fd xs i=some y):i < xs.length:=(at0.1 h).1
def Zf {α:Type} {xs:List α} {i:Nat} {y:α} (h:fd xs i=some y):Fa y xs:=ax6 h
def o4:(u:bB)->aa u->Prop
 | .bU u v,p=>o4 u p.1/\o4 v p.2
 | .arr n u,xs=>List.length xs=n/\ ∀x,Fa (α:=aa u) x xs->o4 u x
 |_,_=>True
def oe:Option Nat->Option Addr
 |none=>none
 |some b=>some ⟨b,0,none⟩
def rp:Option (Nat×Nat×Nat)->Value
 |none=>.slice none 0 0
 |some (b,n,cap)=>.slice (some ⟨b,0,none⟩) n cap
def rq:aH0->List Value
 | []=>[]
 |b::l=>.pointer (some ⟨b,0,none⟩)::rq l
def mV (x:Nat×aH0):Value:=.func (.func x.1) #[] (List.toArray (rq x.2))
def cw (I:Nat->Prop) (w:aH5):(u:bB)->aa u->(Nat->Option Value)->Prop
 | .int k,n,c=>c 0=some (.int k n)
 | .u8,b,c=>c 0=some (.int .u8 (UInt8.toNat b:Int))
 | .bool,b,c=>c 0=some (.bool b)
 | .str,s,c=>c 0=some (.string ⟨List.toArray s⟩)
 | .aM,x,c=>c 0=some (.pointer (oe x))
 | .dz,x,c=>c 0=some (rp x)
 | .fn,x,c=>c 0=some (mV x)
 | .cc u,xs,c=> ∃A cap,c 0=some (.slice A (List.length xs) cap)/\List.length xs<=cap/\cap<=maxLen/\
  (0 < List.length xs-> ∃b o,A=some ⟨b,o,none⟩/\I b/\ ∀i x,fd (α:=aa u) xs i=some x->cw I w u x (fun j=>w.cell? ⟨b,o+(i*aR u+j),none⟩))
 | .bU u v,p,c=>cw I w u p.1 c/\cw I w v p.2 (fun j=>c (aR u+j))
 | .arr n u,xs,c=>List.length xs=n/\ ∀i x,fd (α:=aa u) xs i=some x->cw I w u x (fun j=>c (i*aR u+j))
def gY (I:Nat->Prop) (w:aH5):D->Value->Prop
 | .int k n,v=>v= .int k n
 | .lit b,v=>v= .bool b
 | .bool b,v=>v= .bool b
 | .str s,v=>v= .string ⟨s.toArray⟩
 | .aM x,v=>v= .pointer (oe x)
 | .dz x,v=>v=rp x
 | .fn x,v=>v=mV x
 | .bG u xs,v=>cw I w (.cc u) xs (fun _=>some v)
def cp (I:Nat->Prop) (w:aH5) (I':Nat->Prop) (w':aH5):Prop:= ∀b,I b->I' b/\w'.heap[b]? =w.heap[b]?
section
variable {I I':Nat->Prop} {w w':aH5}
def cp.refl (I:Nat->Prop) (w:aH5):cp I w I w:=fun _ h=>⟨h,rfl⟩
def cp.trans {PD:Nat->Prop} {PE:aH5} (h:cp I w I' w') (k:cp I' w' PD PE):cp I w PD PE:=fun b O=>⟨(k b (h b O).1).1,(k b (h b O).1).2.trans (h b O).2⟩
def PF {b o:Nat} {v:aI3} (h:w'.heap[b]? =w.heap[b]?) (J:w.cell? ⟨b,o,none⟩=some v):w'.cell? ⟨b,o,none⟩=some v:=
 (World.cell?_of_block (a:=⟨b,o,none⟩) h).trans J
def cw.mono (U:cp I w I' w'): ∀(u:bB) (x:aa u) (c ca:Nat->Option Value),(∀j v,c j=some v->ca j=some v)->cw I w u x c->cw I' w' u x ca:=by
 intro u
 induction u with
 |int k=>exact fun x c ca J h=>J _ _ h
 |u8=>exact fun x c ca J h=>J _ _ h
 |bool=>exact fun x c ca J h=>J _ _ h
 |str=>exact fun x c ca J h=>J _ _ h
 |aM=>exact fun x c ca J h=>J _ _ h
 |dz=>exact fun x c ca J h=>J _ _ h
 |fn=>exact fun x c ca J h=>J _ _ h
 |cc u bn=>
  rintro x c ca J ⟨A,cap,aw,E,G,ah⟩;refine⟨A,cap,J _ _ aw,E,G,fun ak=>?_⟩;obtain⟨b,o,dX,a1,hx⟩:=ah ak;exact⟨b,o,dX,(U b a1).1,fun i y aC=>bn _ _ _ (fun j v az=>PF (U b a1).2 az) (hx i y aC)⟩
 |bU u v o5 o6=>exact fun x c ca J h=>⟨o5 _ _ _ J h.1,o6 _ _ _ (fun j v az=>J _ _ az) h.2⟩
 |arr n u bn=>exact fun x c ca J h=>⟨h.1,fun i y aC=>bn _ _ _ (fun j v az=>J _ _ az) (h.2 i y aC)⟩
def gY.mono (U:cp I w I' w'): ∀(x:D) (v:aI3),gY I w x v->gY I' w' x v
 | .int _ _,_,h=>h
 | .lit _,_,h=>h
 | .bool _,_,h=>h
 | .str _,_,h=>h
 | .aM _,_,h=>h
 | .dz _,_,h=>h
 | .fn _,_,h=>h
 | .bG u xs,v,h=>cw.mono U (.cc u) xs (fun _=>some v) (fun _=>some v) (fun _ _ h=>h) h
def Fb {j n s:Nat} (h:j < n*s):j/s < n/\j % s < s/\j/s*s+j % s=j:=by
 have au:0 < s:=by
  rcases aB3 s with aw |aw
  .subst aw;simp at h
  .exact aw
 exact⟨(aA4 au).2 h,Nat.mod_lt _ au,by rw[aB2];exact Nat.div_add_mod j s⟩
def cw.cell: ∀(u:bB) (x:aa u) (c:Nat->Option Value) (j:Nat),cw I w u x c->j < aR u-> ∃v,c j=some v/\gY I w (fS u x j) v:=by
 intro u
 induction u with
 |int k=>exact fun x c j h V=>⟨_,(by
       have:j=0:=aF9
       subst this;exact h),rfl⟩
 |u8=>exact fun x c j h V=>⟨_,(by
    have:j=0:=aF9
    subst this;exact h),rfl⟩
 |bool=>exact fun x c j h V=>⟨_,(by
      have:j=0:=aF9
      subst this;exact h),rfl⟩
 |str=>exact fun x c j h V=>⟨_,(by
     have:j=0:=aF9
     subst this;exact h),rfl⟩
 |aM=>exact fun x c j h V=>⟨_,(by
     have:j=0:=aF9
     subst this;exact h),rfl⟩
 |dz=>exact fun x c j h V=>⟨_,(by
     have:j=0:=aF9
     subst this;exact h),rfl⟩
 |fn=>exact fun x c j h V=>⟨_,(by
    have:j=0:=aF9
    subst this;exact h),rfl⟩
 |cc u _=>
  intro x c j h V;have:j=0:=aF9
  subst this;obtain⟨A,cap,aw,E⟩:=h;exact⟨_,aw,A,cap,rfl,E⟩
 |bU u v o5 o6=>
  intro x c j h V;simp only[aR] at V;unfold fS
  by_cases bv:j < aR u
  .rw[show Nat.blt j (aR u)=true by simpa[Nat.blt_eq] using bv];exact o5 _ _ _ h.1 bv
  .rw[show Nat.blt j (aR u)=false by rw[az6];simpa[Nat.blt_eq] using bv];have:=o6 _ _ (j - aR u) h.2 aD1
   rwa[show aR u+(j - aR u)=j by omega] at this
 |arr n u bn=>
  intro x c j h V;obtain⟨af,ao,bo⟩:=Fb (by simpa[aR] using V);have ak:j/aR u < List.length x:=by rw[h.1];exact af
  have aU:fd (α:=aa u) x (j/aR u)=some (List.getD x (j/aR u) (cR u)):=Zd (α:=aa u) x _ _ ak;have:=bn _ _ (j % aR u) (h.2 _ _ aU) ao;rw[bo] at this;exact this
def cw.mk: ∀(u:bB) (x:aa u) (c:Nat->Option Value),o4 u x->(∀j,j < aR u-> ∃v,c j=some v/\gY I w (fS u x j) v)->cw I w u x c:=by
 intro u
 induction u with
 |int k=>intro x c _ h;obtain⟨v,E,G⟩:=h 0 (by simp[aR]);rw[show v=_ from G] at E;exact E
 |u8=>intro x c _ h;obtain⟨v,E,G⟩:=h 0 (by simp[aR]);rw[show v=_ from G] at E;exact E
 |bool=>intro x c _ h;obtain⟨v,E,G⟩:=h 0 (by simp[aR]);rw[show v=_ from G] at E;exact E
 |str=>intro x c _ h;obtain⟨v,E,G⟩:=h 0 (by simp[aR]);rw[show v=_ from G] at E;exact E
 |dz=>intro x c _ h;obtain⟨v,E,G⟩:=h 0 (by simp[aR]);rw[show v=_ from G] at E;exact E
 |fn=>intro x c _ h;obtain⟨v,E,G⟩:=h 0 (by simp[aR]);rw[show v=_ from G] at E;exact E
 |aM=>intro x c _ h;obtain⟨v,E,G⟩:=h 0 (by simp[aR]);rw[show v=_ from G] at E;exact E
 |cc u _=>
  intro x c _ h;obtain⟨v,E,A,cap,G,ah⟩:=h 0 (by simp[aR]);exact⟨A,cap,E.trans G,ah⟩
 |bU u v o5 o6=>
  intro x c hw h;refine⟨o5 _ _ hw.1 fun j V=>?_,o6 _ _ hw.2 fun j V=>?_⟩
  .obtain⟨v,E,G⟩:=h j (by simp only[aR];omega);unfold fS at G;rw[show Nat.blt j (aR u)=true by simpa[Nat.blt_eq] using V] at G;exact⟨v,E,G⟩
  .obtain⟨dr,E,G⟩:=h (aR u+j) (by simp only[aR];omega);unfold fS at G;rw[show Nat.blt (aR u+j) (aR u)=false by rw[az6];simp[Nat.blt_eq]] at G;rw[show aR u+j - aR u=j by omega] at G;exact⟨dr,E,G⟩
 |arr n u bn=>
  intro x c hw h;refine⟨hw.1,fun i y aC=>bn _ _ (hw.2 y (Zf (α:=aa u) aC)) fun j V=>?_⟩;have aE:i < List.length x:=Cg (α:=aa u) aC;have dw:i < n:=by rw[<-hw.1];exact aE
  have bv:i*aR u+j < n*aR u:=by
   have:=ax5 (aR u) dw;rw[az3] at this;omega
  obtain⟨v,E,G⟩:=h (i*aR u+j) bv;unfold fS at G
  have af:(i*aR u+j)/aR u=i:=by
   rw[aB2,Nat.mul_add_div aD1,Nat.div_eq_of_lt V,az5]
  have ao:(i*aR u+j) % aR u=j:=by
   rw[aB2,Nat.mul_add_mod,Nat.mod_eq_of_lt V]
  rw[af,ao] at G;rw[show List.getD x i (cR u)=y from Ze (α:=aa u) _ aC] at G;exact⟨v,E,G⟩
end
structure bq where
 bm:Nat
 A:Option Addr
 n:Nat
 cap:Nat
def bq.eS (p:bq):Value:=.slice p.A p.n p.cap
inductive lo where
 |p (c off:Nat)
 |d (x:D)
inductive bE where
 |d (x:D)
 |ptr (c off:Nat)
 |own (c:Nat)
 |el (u:bB) (x:aa u) (off:Nat)
 |fW (c s i off:Nat)
 |os (c s off n:Nat)
 |mp (c:Nat)
 |c3 (f:aI5) (l:List lo)
 |dV
 |bN (v:aI3)
 |any
inductive d0 where
 |one (s:bE)
 |agg (l:List bE)
 |kE (u:bB) (x:aa u)
inductive aS where
 |c (x:d0)
 |cn (l:List d0)
 |undef
structure bg where
 bp:(Nat->Prop)->(Nat->Prop)->World->bq->Prop
 cr: ∀(I F:Nat->Prop) (w:aH5) (I':Nat->Prop) (w':aH5) (p:bq),bp I F w p->cp I w I' w'->(∀b,F b->w'.heap[b]? =w.heap[b]?)->w.heap.size<=w'.heap.size->bp I' F w' p
inductive ba where
 |cells (l:List bE)
 |row (e:aI0) (u:bB) (xs:List (aa u))
 |map (aI aK:bB) (es:List (aa aI×aa aK))
 |val (u:bB) (x:aa u)
 |aH (o:bg)
 |b7 (d:Nat) (o:bq->bg)
def xQ (ρ:Nat->bq) (I:Nat->Prop) (w:aH5):lo->Value->Prop
 | .p c off,v=>v= .pointer (some ⟨(ρ c).bm,off,none⟩)
 | .d x,v=>gY I w x v
def h7 (ρ:Nat->bq) (I:Nat->Prop) (w:aH5):List lo->List Value->Prop
 | [],aF=>aF=[]
 |s::l,aF=> ∃v r,aF=v::r/\xQ ρ I w s v/\h7 ρ I w l r
def d' (ρ:Nat->bq) (I:Nat->Prop) (w:aH5):bE->Value->Prop
 | .d x,v=>gY I w x v
 | .ptr c off,v=>v= .pointer (some ⟨(ρ c).bm,off,none⟩)
 | .own c,v=>v=(ρ c).eS
 | .el u x off,v=> ∃b o,v= .pointer (some ⟨b,o+off,none⟩)/\I b/\cw I w u x (fun j=>w.cell? ⟨b,o+j,none⟩)
 | .fW c s i off,v=>v= .pointer (some ⟨(ρ c).bm,i*s+off,none⟩)
 | .os c s off n,v=>v= .slice (if(ρ c).cap=off then(ρ c).A else(ρ c).A.map (·.add (off*s))) n ((ρ c).cap - off)
 | .mp c,v=>v= .map (some (ρ c).bm)
 | .c3 f l,v=> ∃aF,v= .func (.func f) #[] (List.toArray aF)/\h7 ρ I w l aF
 | .dV,v=>v= .slice none 0 0
 | .bN u,v=>v=u
 | .any,_=>True
def cg (ρ:Nat->bq) (I:Nat->Prop) (w:aH5):List bE->List Value->Prop
 | [],aF=>aF=[]
 |s::l,aF=> ∃v r,aF=v::r/\d' ρ I w s v/\cg ρ I w l r
def gS (ρ:Nat->bq) (I:Nat->Prop) (w:aH5):d0->Value->Prop
 | .one s,v=>d' ρ I w s v
 | .agg l,v=> ∃aF,v= .agg (List.toArray aF)/\cg ρ I w l aF
 | .kE u x,v=> ∃aF,v= .agg (List.toArray aF)/\aF.length=aR u/\cw I w u x (fun j=>aF[j]?)
def jb (ρ:Nat->bq) (I:Nat->Prop) (w:aH5):List d0->List Value->Prop
 | [],aF=>aF=[]
 |s::l,aF=> ∃v r,aF=v::r/\gS ρ I w s v/\jb ρ I w l r
def cA (ρ:Nat->bq) (I:Nat->Prop) (w:aH5):aS->Value->Prop
 | .c x,v=>gS ρ I w x v
 | .cn l,v=> ∃aF,v= .tuple (List.toArray aF)/\jb ρ I w l aF
 | .undef,v=>v=Go.undef
def gZ:(u:bB)->aa u->Value
 | .int k,n=>.int k n
 | .str,s=>.string ⟨List.toArray s⟩
 |_,_=>.nilFunc
def nD:bB->Bool
 | .bU _ _=>false
 | .arr _ _=>false
 |_=>true
def jT (I:Nat->Prop) (w:aH5) (u:bB) (x:aa u) (v:aI3):Prop:=v.cells.size=aR u/\((nD u=true->v.cells= #[v])/\(nD u=false-> ∃cs,v= .agg cs))/\cw I w u x (fun j=>v.cells.toList[j]?)
def iG (I:Nat->Prop) (w:aH5) (aI aK:bB):List (aa aI×aa aK)->List MapEntry->Prop
 | [],es=>es=[]
 |p::l,es=> ∃e r,es=e::r/\e.key=gZ aI p.1/\jT I w aK p.2 e.val/\iG I w aI aK l r
def ms (es:aI7) (bY:Nat):Prop:=(es.map (·.born)).Pairwise (· < ·)/\ ∀e,e∈es->e.born < bY
def g7 (I:Nat->Prop) (w:aH5) (u:bB) (xs:List (aa u)) (cs:aH4):Prop:= ∀i x,xs[i]? =some x->cw I w u x (fun j=>cs[i*aR u+j]?)
def Holds (ρ:Nat->bq) (I F:Nat->Prop) (w:aH5) (p:bq):ba->Prop
 | .cells l=>(∀b,F b↔b=p.bm)/\ ∃aF T,w.heap[p.bm]? =some (.cells (List.toArray aF) T (0,0))/\cg ρ I w l aF
 | .row e u xs=>(∀b,F b↔p.eS.ownBlock=some b)/\(∀b,p.eS.ownBlock=some b->b=p.bm)/\ ∃cs,w.ownsRow 0 e (aR u) p.eS xs.length cs/\g7 I w u xs cs
 | .map aI aK es=>(∀b,F b↔b=p.bm)/\ ∃bV bY,w.heap[p.bm]? =some (.map (List.toArray bV) bY)/\iG I w aI aK es bV/\ms bV bY
 | .val u x=>(∀b,F b↔b=p.bm)/\ ∃aF T,w.heap[p.bm]? =some (.cells (List.toArray aF) T (0,0))/\aF.length=aR u/\cw I w u x (fun j=>aF[j]?)
 | .aH o=>o.bp I F w p
 | .b7 d o=>(o (ρ d)).bp I F w p
def mt (c:Nat):List lo->Bool
 | []=>false
 | .p b _::l=>Nat.beq b c||mt c l
 | .d _::l=>mt c l
def bE.has (c:Nat):bE->Bool
 | .ptr b _=>Nat.beq b c
 | .own b=>Nat.beq b c
 | .fW b _ _ _=>Nat.beq b c
 | .os b _ _ _=>Nat.beq b c
 | .mp b=>Nat.beq b c
 | .c3 _ l=>mt c l
 |_=>false
def mW (c:Nat):List bE->Bool
 | []=>false
 |s::l=>s.has c||mW c l
def d0.has (c:Nat):d0->Bool
 | .one s=>s.has c
 | .agg l=>mW c l
 | .kE _ _=>false
def tM (c:Nat):List d0->Bool
 | []=>false
 |s::l=>s.has c||tM c l
def aS.has (c:Nat):aS->Bool
 | .c x=>x.has c
 | .cn l=>tM c l
 | .undef=>false
def ba.has (c:Nat):ba->Bool
 | .cells l=>mW c l
 | .b7 d _=>Nat.beq d c
 |_=>false
section
variable {ρ ρ':Nat->bq} {I I':Nat->Prop} {w w':aH5}
def h7.mono (U:cp I w I' w'): ∀(l:List lo) (aF:aH4),(∀c,mt c l=true->ρ' c=ρ c)->h7 ρ I w l aF->h7 ρ' I' w' l aF
 | [],_,_,h=>h
 | .p b o::l,_,dA,⟨v,r,e,E,G⟩=>⟨v,r,e,(by have e:=dA b (by simp[mt]);simp only[xQ] at*;rw[e];exact E),h7.mono U l r (fun c J=>dA c (by simp[mt,J])) G⟩
 | .d x::l,_,dA,⟨v,r,e,E,G⟩=>⟨v,r,e,gY.mono U x v E,h7.mono U l r (fun c J=>dA c (by simpa[mt] using J)) G⟩
def d'.mono (U:cp I w I' w') (s:bE) (v:aI3) (dA: ∀c,s.has c=true->ρ' c=ρ c) (h:d' ρ I w s v):d' ρ' I' w' s v:=by
 cases s with
 |d x=>exact gY.mono U x v h
 |ptr c off=>
  have e:=dA c aF5;simp only[d'] at*;rw[e];exact h
 |own c=>
  have e:=dA c aF5;simp only[d'] at*;rw[e];exact h
 |el u x off=>
  obtain⟨b,o,E,G,ah⟩:=h;exact⟨b,o,E,(U b G).1,cw.mono U u x _ _ (fun j v az=>PF (U b G).2 az) ah⟩
 |fW c s i off=>
  have e:=dA c aF5;simp only[d'] at*;rw[e];exact h
 |os c s off n=>
  have e:=dA c aF5;simp only[d'] at*;rw[e];exact h
 |mp c=>
  have e:=dA c aF5;simp only[d'] at*;rw[e];exact h
 |c3 f l=>obtain⟨aF,e,h⟩:=h;exact⟨aF,e,h7.mono U l aF dA h⟩
 |dV=>exact h
 |bN u=>exact h
 |any=>trivial
def cg.mono (U:cp I w I' w'): ∀(l:List bE) (aF:aH4),(∀c,mW c l=true->ρ' c=ρ c)->cg ρ I w l aF->cg ρ' I' w' l aF
 | [],_,_,h=>h
 |s::l,_,dA,⟨v,r,e,E,G⟩=>⟨v,r,e,d'.mono U s v (fun c J=>dA c (by simp[mW,J])) E,cg.mono U l r (fun c J=>dA c (by simp[mW,J])) G⟩
def gS.mono (U:cp I w I' w') (s:d0) (v:aI3) (dA: ∀c,s.has c=true->ρ' c=ρ c) (h:gS ρ I w s v):gS ρ' I' w' s v:=by
 cases s with
 |one s=>exact d'.mono U s v dA h
 |agg l=>obtain⟨aF,e,h⟩:=h;exact⟨aF,e,cg.mono U l aF dA h⟩
 |kE u x=>obtain⟨aF,e,E,G⟩:=h;exact⟨aF,e,E,cw.mono U u x _ _ (fun _ _ h=>h) G⟩
def jb.mono (U:cp I w I' w'): ∀(l:List d0) (aF:aH4),(∀c,tM c l=true->ρ' c=ρ c)->jb ρ I w l aF->jb ρ' I' w' l aF
 | [],_,_,h=>h
 |s::l,_,dA,⟨v,r,e,E,G⟩=>⟨v,r,e,gS.mono U s v (fun c J=>dA c (by simp[tM,J])) E,jb.mono U l r (fun c J=>dA c (by simp[tM,J])) G⟩
def cA.mono (U:cp I w I' w') (s:aS) (v:aI3) (dA: ∀c,s.has c=true->ρ' c=ρ c) (h:cA ρ I w s v):cA ρ' I' w' s v:=by
 cases s with
 |c s=>exact gS.mono U s v dA h
 |cn l=>obtain⟨aF,e,h⟩:=h;exact⟨aF,e,jb.mono U l aF dA h⟩
 |undef=>exact h
def g7.mono (U:cp I w I' w') {u:bB} {xs:List (aa u)} {cs:aH4} (h:g7 I w u xs cs):g7 I' w' u xs cs:=fun i x hx=>cw.mono U u x _ _ (fun _ _ h=>h) (h i x hx)
def jT.mono (U:cp I w I' w') {u:bB} {x:aa u} {v:aI3} (h:jT I w u x v):jT I' w' u x v:=⟨h.1,h.2.1,cw.mono U u x _ _ (fun _ _ h=>h) h.2.2⟩
def iG.mono (U:cp I w I' w') {aI aK:bB}: ∀{l:List (aa aI×aa aK)} {es:aI7},iG I w aI aK l es->iG I' w' aI aK l es
 | [],_,h=>h
 |_::_,_,⟨e,r,aw,E,G,ah⟩=>⟨e,r,aw,E,G.mono U,ah.mono U⟩
def PG {e s n:Nat} {v:aI3} {cs:aH4} (h:w.ownsRow 0 e s v n cs) (O: ∀b,v.ownBlock=some b->w'.heap[b]? =w.heap[b]?):w'.ownsRow 0 e s v n cs:=by
 refine⟨h.1,?_⟩;rcases h.2 with h |⟨g,cap,dm,az,aw,aU,r⟩
 .exact .inl h
 .exact .inr ⟨g,cap,dm,az,aw,(O g (by rw[az];rfl)).trans aU,r⟩
def Holds.cr (U:cp I w I' w') {F:Nat->Prop} (bj: ∀b,F b->w'.heap[b]? =w.heap[b]?) (aN:w.heap.size<=w'.heap.size) {p:bq}: ∀(ch:ba),(∀c,ch.has c=true->ρ' c=ρ c)->Holds ρ I F w p ch->Holds ρ' I' F w' p ch
 | .cells l,dA,⟨E,aF,T,G,ah⟩=>⟨E,aF,T,(bj _ ((E _).2 rfl)).trans G,cg.mono U l aF dA ah⟩
 | .row e u xs,_,⟨E,G,cs,ah,aW⟩=>⟨E,G,cs,PG ah fun b O=>bj b ((E b).2 O),aW.mono U⟩
 | .map aI aK es,_,⟨E,bV,bY,G,ah,aW⟩=>⟨E,bV,bY,(bj _ ((E _).2 rfl)).trans G,ah.mono U,aW⟩
 | .val u x,_,⟨E,aF,T,G,ah,aW⟩=>⟨E,aF,T,(bj _ ((E _).2 rfl)).trans G,ah,cw.mono U u x _ _ (fun _ _ h=>h) aW⟩
 | .aH o,_,h=>o.cr _ _ _ _ _ _ h U bj aN
 | .b7 d o,dA,h=>by
  have e:=dA d (by simp[ba.has]);simp only[Holds] at*;rw[e];exact(o (ρ d)).cr _ _ _ _ _ _ h U bj aN
end
end
section
abbrev aZ:=List (Nat×aS)
abbrev aA:=List (Nat×ba)
def dR:aZ->Nat->aS
 | [],_=>.c (.one .any)
 |(t,v)::K,s=>match Nat.beq t s with
  |true=>v
  |false=>dR K s
def aj:aA->Nat->Option ba
 | [],_=>none
 |(t,v)::B,s=>match Nat.beq t s with
  |true=>some v
  |false=>aj B s
def g8:aA->Nat->aA
 | [],_=>[]
 |(t,v)::B,s=>match Nat.beq t s with
  |true=>g8 B s
  |false=>(t,v)::g8 B s
def hM (B:aA) (c d:Nat):aj (g8 B c) d=if c=d then none else aj B d:=by
 induction B with
 |nil=>simp[g8,aj]
 |cons x B bn=>
  obtain⟨t,v⟩:=x;unfold g8
  by_cases h:Nat.beq t c=true
  .have e:=at1 h;subst e;rw[h];simp only[bn]
   split
   .rfl
   .rename_i a8;simp only[aj];rw[show Nat.beq t d=false by rw[az6];intro h;exact a8 (at1 h)]
  .rw[aD0] at h;rw[h];simp only[aj]
   by_cases G:Nat.beq t d=true
   .have e:=at1 G;subst e;rw[mu (fun e=>by subst e;simp at h)];rw[G]
   .rw[aD0] at G;rw[G];simpa using bn
def ci (B:aA) (c:Nat) (ch:ba) (d:Nat):aj ((c,ch)::B) d=if c=d then some ch else aj B d:=by
 simp only[aj]
 by_cases h:c=d
 .subst h;simp
 .rw[mu h,show Nat.beq c d=false by rw[az6];intro e;exact h (at1 e)]
def kV (K:aZ) (c:Nat) (v:aS) (d:Nat):dR ((c,v)::K) d=if c=d then v else dR K d:=by
 rw[dR.eq_def]
 by_cases h:c=d
 .subst h;simp
 .simp only[mu h,show Nat.beq c d=false by rw[az6];intro e;exact h (at1 e)]
def PH (a:Act) (s:Nat) (v:aI3):Prop:=a.tmps.getD s undef=v
def PI {a:Act} {d:Nat} {v:aI3} (h:d < a.tmps.size):PH (a.put (some d) v) d v:=by simp[PH,Act.put,h]
def Zg {a:Act} {d s:Nat} {v:aI3} (h:d≠s):a.tmps.getD s undef=(a.put (some d) v).tmps.getD s undef:=by simp[Act.put,az2 h]
def kW {a:Act} {d:aI1} {v:aI3}:(a.put d v).tmps.size=a.tmps.size:=by cases d <;>simp[Act.put]
def kX {a:Act} {d:aI1} {v:aI3}:(a.put d v).defers=a.defers:=by cases d <;>simp[Act.put]
structure fv where
 gH:World
 zU:Nat->Prop
 qw:Nat->Prop
 mX:Nat->bq
 ds:aH0
def xR (D:Nat):Deferred:={target:=.collected D,args:= #[]}
def b5 (C:fv) (B:aA) (F:Nat->Nat->Prop) (w:aH5):Nat->Prop:=fun b=>
 b < w.heap.size/\(C.zU b\/C.qw b\/C.gH.heap.size<=b/\b∉C.ds)/\ ∀c ch,aj B c=some ch-> ¬F c b
structure Mem (ids:aH0) (C:fv) (B:aA) (ρ:Nat->bq) (F:Nat->Nat->Prop) (w:aH5):Prop where
 fr:cZ C.qw C.gH w
 holds: ∀c ch,aj B c=some ch->Holds ρ (b5 C B F w) (F c) w (ρ c) ch
 own: ∀c ch,aj B c=some ch-> ∀b,F c b->b < w.heap.size/\(C.qw b\/C.gH.heap.size<=b/\b∉C.ds)
 fw: ∀c ca ch ch' b,aj B c=some ch->aj B ca=some ch'->c≠ca->F c b-> ¬F ca b
 eP: ∀c,c∈ids->ρ c=C.mX c
 lp:C.ds.Nodup/\(∀b,C.zU b\/C.qw b->b < C.gH.heap.size)/\ ∀D,D∈C.ds->D < w.heap.size/\w.heap[D]? =some (.deferred (some []))/\C.gH.heap.size<=D
def eF (K:aZ) (ρ:Nat->bq) (I:Nat->Prop) (a:Act) (w:aH5):Prop:= ∀s,cA ρ I w (dR K s) (a.tmps.getD s undef)
def fe (N:Nat) (ids:aH0) (C:fv) (K:aZ) (B:aA) (a:Act) (w:aH5):Prop:=
 a.tmps.size=N/\a.defers=C.ds.map xR/\ ∃ρ F,Mem ids C B ρ F w/\eF K ρ (b5 C B F w) a w
def Mem.fresh {ids:aH0} {C:fv} {B:aA} {ρ:Nat->bq} {F:Nat->Nat->Prop} {w:aH5} (h:Mem ids C B ρ F w) {b:Nat} (O:w.heap.size<=b):C.gH.heap.size<=b/\b∉C.ds:=
 ⟨az4 h.fr.size O,fun H=>by have:=(h.lp.2.2 b H).1;omega⟩
def Mem.step {ids:aH0} {C:fv} {B B':aA} {ρ ρ':Nat->bq} {F F':Nat->Nat->Prop} {w w':aH5} (h:Mem ids C B ρ F w) (M Fc:Nat->Prop)
  (cJ:cZ (fun b=> ∃c ch,aj B c=some ch/\M c/\F c b) w w')
  (rr: ∀c ch,aj B' c=some ch-> ¬M c->aj B c=some ch)
  (dA: ∀c,¬Fc c->ρ' c=ρ c) (bj: ∀c,¬M c->F' c=F c) (Je: ∀c,c∈ids-> ¬Fc c)
  (mv: ∀c,Fc c->M c)
  (named: ∀c ch,aj B c=some ch-> ¬M c-> ∀d,ch.has d=true-> ¬Fc d)
  (new: ∀c ch,aj B' c=some ch->M c->cp (b5 C B F w) w (b5 C B' F' w') w'->Holds ρ' (b5 C B' F' w') (F' c) w' (ρ' c) ch)
  (Fd: ∀c ch,aj B' c=some ch->M c-> ∀b,F' c b->b < w'.heap.size/\((∃g9 cG,aj B g9=some cG/\M g9/\F g9 b)\/w.heap.size<=b))
  (Zh: ∀c ca ch ch' b,aj B' c=some ch->aj B' ca=some ch'->M c->M ca->c≠ca->F' c b-> ¬F' ca b):
  Mem ids C B' ρ' F' w'/\cp (b5 C B F w) w (b5 C B' F' w') w':=by
 have aN:=h.fr.size
 have Jf:cp (b5 C B F w) w (b5 C B' F' w') w':=by
  rintro b ⟨E,G,ah⟩;refine⟨⟨au2 E cJ.size,G,fun c ch J=>?_⟩,cJ.block b E ?_⟩
  .by_cases al:M c
   .intro O;obtain⟨_,dB⟩:=Fd c ch J al b O;rcases dB with⟨g9,cG,af,_,ao⟩ |dB
    .exact ah g9 cG af ao
    .omega
   .rw[bj c al];exact ah c ch (rr c ch J al)
  .rintro⟨c,ch,af,_,ao⟩;exact ah c ch af ao
 have Zi: ∀c ch,aj B c=some ch-> ¬M c-> ∀b,F c b->w'.heap[b]? =w.heap[b]? :=fun c ch J al b O=>
  cJ.block b (h.own c ch J b O).1 (by
   rintro⟨g9,cG,af,ao,bo⟩;exact h.fw c g9 ch cG b J af (fun e=>al (e▸ao)) O bo)
 refine⟨⟨?_,?_,?_,?_,?_,?_⟩,Jf⟩
 .refine h.fr.trans cJ ?_;rintro b O ⟨c,ch,af,_,ao⟩;rcases(h.own c ch af b ao).2 with h' |h'
  .exact h'
  .have:=h'.1;omega
 .intro c ch J
  by_cases al:M c
  .exact new c ch J al Jf
  .have ag:=rr c ch J al;rw[bj c al,dA c (fun hn=>al (mv c hn))];exact Holds.cr Jf (Zi c ch ag al) cJ.size ch (fun d H=>dA d (named c ch ag al d H)) (h.holds c ch ag)
 .intro c ch J b O
  by_cases al:M c
  .obtain⟨E,G⟩:=Fd c ch J al b O;refine⟨E,?_⟩;rcases G with⟨g9,cG,af,_,ao⟩ |G
   .exact(h.own g9 cG af b ao).2
   .exact .inr (h.fresh G)
  .rw[bj c al] at O;obtain⟨E,G⟩:=h.own c ch (rr c ch J al) b O;exact⟨au2 E cJ.size,G⟩
 .intro c ca ch ch' b J cW a8 O dB
  by_cases al:M c
  .by_cases bC:M ca
   .exact Zh c ca ch ch' b J cW al bC a8 O dB
   .rw[bj ca bC] at dB;have tN:=rr ca ch' cW bC;rcases(Fd c ch J al b O).2 with⟨g9,cG,af,bo,ao⟩ |G
    .exact h.fw g9 ca cG ch' b af tN (fun e=>bC (e▸bo)) ao dB
    .have:=(h.own ca ch' tN b dB).1;omega
  .rw[bj c al] at O;have ag:=rr c ch J al
   by_cases bC:M ca
   .rcases(Fd ca ch' cW bC b dB).2 with⟨g9,cG,af,bo,ao⟩ |G
    .exact h.fw g9 c cG ch b af ag (fun e=>al (e▸bo)) ao O
    .have:=(h.own c ch ag b O).1;omega
   .rw[bj ca bC] at dB;exact h.fw c ca ch ch' b ag (rr ca ch' cW bC) a8 O dB
 .intro c J;rw[dA c (Je c J)];exact h.eP c J
 .refine⟨h.lp.1,h.lp.2.1,fun D ce=>?_⟩;obtain⟨g1,g2,cK⟩:=h.lp.2.2 D ce;refine⟨au2 g1 cJ.size,(cJ.block D g1 ?_).trans g2,cK⟩;rintro⟨c,ch,af,_,ao⟩;rcases(h.own c ch af D ao).2 with h' |h'
  .have:=h.lp.2.1 D (.inr h');omega
  .exact h'.2 ce
def Mem.below {ids:aH0} {C:fv} {B:aA} {ρ:Nat->bq} {F:Nat->Nat->Prop} {w w':aH5} (h:Mem ids C B ρ F w) (O:Below w.heap.size w w'):
  Mem ids C B ρ F w'/\cp (b5 C B F w) w (b5 C B F w') w':=
 h.step (fun _=>False) (fun _=>False) (cZ.pP O) (fun _ _ h _=>h) (fun _ _=>rfl) (fun _ _=>rfl) (fun _ _ h=>h) (fun _ h=>h) (fun _ _ _ _ _ _ h=>h) (fun _ _ _ h=>h.elim) (fun _ _ _ h=>h.elim) (fun _ _ _ _ _ _ _ h=>h.elim)
def eF.mono {K:aZ} {ρ ρ':Nat->bq} {I I':Nat->Prop} {a:Act} {w w':aH5} (h:eF K ρ I a w) (U:cp I w I' w') (dA: ∀s c,(dR K s).has c=true->ρ' c=ρ c):eF K ρ' I' a w':=
 fun s=>cA.mono U _ _ (dA s) (h s)
def eF.put {K:aZ} {ρ:Nat->bq} {I:Nat->Prop} {a:Act} {w:aH5} (h:eF K ρ I a w) {d:Nat} {v:aS} {x:aI3} (H:d < a.tmps.size) (az:cA ρ I w v x):eF ((d,v)::K) ρ I (a.put (some d) x) w:=fun s=>by
 rw[kV]
 by_cases e:d=s
 .subst e;rw[vj rfl,show(a.put (some d) x).tmps.getD d undef=x from PI H];exact az
 .rw[mu e,<-Zg e];exact h s
def mY (d:aI1) (v:aS) (K:aZ):aZ:=match d with
 |some d=>(d,v)::K
 |none=>K
def eF.kY {K:aZ} {ρ:Nat->bq} {I:Nat->Prop} {a:Act} {w:aH5} (h:eF K ρ I a w) {d:aI1} {v:aS} {x:aI3} (H: ∀e,d=some e->e < a.tmps.size) (az:cA ρ I w v x):eF (mY d v K) ρ I (a.put d x) w:=by
 cases d with
 |none=>exact h
 |some d=>exact h.put (H d rfl) az
def wx:Value->bE
 | .int k n=>.d (.int k n)
 | .bool b=>.d (.lit b)
 | .string s=>.d (.str s.data.toList)
 | .slice none 0 0=>.dV
 |v=>.bN v
def PJ (ρ:Nat->bq) (I:Nat->Prop) (w:aH5) (v:aI3):d' ρ I w (wx v) v:=by
 unfold wx
 split <;>simp[d',gY]
def Fe:Value->aS
 | .agg cs=>.c (.agg (cs.toList.map wx))
 |v=>.c (.one (wx v))
def PK (ρ:Nat->bq) (I:Nat->Prop) (w:aH5): ∀aF:List Value,cg ρ I w (aF.map wx) aF
 | []=>rfl
 |v::aF=>⟨v,aF,rfl,PJ ρ I w v,PK ρ I w aF⟩
def Zj (ρ:Nat->bq) (I:Nat->Prop) (w:aH5) (v:aI3):cA ρ I w (Fe v) v:=by
 unfold Fe
 split
 .rename_i cs;exact⟨cs.toList,aD3,PK ρ I w _⟩
 .exact PJ ρ I w v
def a7 (K:aZ):Operand->aS
 | .tmp t=>dR K t
 | .const v=>Fe v
 | .func f=>.c (.one (.c3 f []))
 | .global g=>.c (.one (.bN (.pointer (some ⟨g,0,none⟩))))
def eF.get {K:aZ} {ρ:Nat->bq} {I:Nat->Prop} {a:Act} {w:aH5} (h:eF K ρ I a w) (x:aH8):cA ρ I w (a7 K x) (a.eval x):=by
 cases x with
 |tmp t=>exact h t
 |const v=>exact Zj ρ I w v
 |func f=>exact⟨[],rfl,rfl⟩
 |global g=>rfl
end
section
def zV (a b:Int):Bool:=decide (a=b)
def zW (a b:aG9):Bool:=decide (a=b)
def fT:(u:bB)->aa u->aa u->Bool
 | .int _,a,b=>zV a b
 | .str,a,b=>zW a b
 |_,_,_=>false
def b0 {aI aK:bB}:List (aa aI×aa aK)->aa aI->Option (aa aK)
 | [],_=>none
 |p::l,k=>match fT aI k p.1 with
  |true=>some p.2
  |false=>b0 l k
def dx {aI aK:bB}:List (aa aI×aa aK)->aa aI->aa aK->List (aa aI×aa aK)
 | [],k,x=>[(k,x)]
 |p::l,k,x=>match fT aI k p.1 with
  |true=>(k,x)::l
  |false=>p::dx l k x
def g0 {aI aK:bB}:List (aa aI×aa aK)->aa aI->List (aa aI×aa aK)
 | [],_=>[]
 |p::l,k=>match fT aI k p.1 with
  |true=>l
  |false=>p::g0 l k
def nE:bB->TypeDesc->Bool
 | .int k,.int ea=>k == ea
 | .str,.string=>true
 |_,_=>false
section
variable {P:aH6} {I:Nat->Prop} {w:aH5} {aI aK:bB}
def sC {d:aJ1} (H:nE aI d=true) (a:aa aI):MapKept.IsKey d (gZ aI a):=by
 cases aI <;>cases d <;>simp[nE] at H
 .subst H;simp[gZ,MapKept.IsKey]
 .simp[gZ,MapKept.IsKey]
def Jg {d:aJ1} (H:nE aI d=true) (a b:aa aI):gZ aI a=gZ aI b↔fT aI a b=true:=by
 cases aI <;>cases d <;>simp[nE] at H
 .have: ∀(k:IntKind) (a b:Int),Value.int k a=Value.int k b↔zV a b=true:=fun k a b=>by simp[zV]
  exact this _ a b
 .have: ∀(a b:aG9),Value.string ⟨List.toArray a⟩=Value.string ⟨List.toArray b⟩↔zW a b=true:=fun a b=>by simp[zW]
  exact this a b
def Ch: ∀{l:List (aa aI×aa aK)} {es:aI7},iG I w aI aK l es->es.length=l.length
 | [],_,h=>by rw[show _=[] from h];rfl
 |p::l,_,⟨e,r,h,_,_,ah⟩=>by rw[h,aw4,aw4,Ch ah]
def Ci {d:aJ1} (H:nE aI d=true) (k:aa aI): ∀(l:List (aa aI×aa aK)) (es:aI7) (i:Nat),iG I w aI aK l es->
  (Instr.findNow d (gZ aI k) es i=some none/\b0 l k=none/\(∀x,dx l k x=l++[(k,x)])/\g0 l k=l)\/
  ∃(j:Nat) (x:aa aK) (e:MapEntry),Instr.findNow d (gZ aI k) es i=some (some (i+j,e.val))/\b0 l k=some x/\es[j]? =some e/\e.key=gZ aI k/\jT I w aK x e.val/\(∀y,dx l k y=l.set j (k,y))/\g0 l k=l.eraseIdx j
 | [],_,i,h=>by
  rw[show _=[] from h];exact .inl ⟨rfl,rfl,fun _=>rfl,rfl⟩
 |p::l,_,i,⟨e,r,h,E,G,ah⟩=>by
  subst h;obtain⟨b,O,rs⟩:=MapKept.sameNow_of_keys (sC H k) (sC H p.1);rw[<-E] at O
  cases Z:fT aI k p.1 with
  |true=>
   have kF:b=true:=rs.2 ((Jg H k p.1).2 Z);subst kF;refine .inr ⟨0,p.2,e,by simp[Instr.findNow,O],by simp[b0,Z],rfl,by rw[E];exact((Jg H k p.1).2 Z).symm,G,fun y=>by simp[dx,Z],by simp[g0,Z]⟩
  |false=>
   have Zk:b=false:=by
    cases b with
    |false=>rfl
    |true=>have:=(Jg H k p.1).1 (rs.1 rfl);rw[Z] at this;cases this
   subst Zk;rcases Ci H k l r (i+1) ah with⟨b4,cf,a3,a4⟩ |⟨j,x,b9,b4,cf,a3,a4,a5,gR,zX⟩
   .exact .inl ⟨by simp[Instr.findNow,O,b4],by simp[b0,Z,cf],fun y=>by simp[dx,Z,a3],by simp[g0,Z,a4]⟩
   .exact .inr ⟨j+1,x,b9,by simp[Instr.findNow,O,b4];omega,by simp[b0,Z,cf],by simpa using a3,a4,a5,fun y=>by simp[dx,Z,gR],by simp[g0,Z,zX]⟩
def PL {t kt et:aI0} {d:aJ1} (cm:P.underlying t=some (.map kt et)) (Z:P.underlying kt=some d) (H:nE aI d=true) {b:Nat} {bV:aI7} {bY:Nat} (O:w.heap[b]? =some (.map (List.toArray bV) bY))
  {l:List (aa aI×aa aK)} (ay:iG I w aI aK l bV) {aB:aI3} (aN:(zeroValue et).run P w= .ok aB w) (rt:jT I w aK (cR aK) aB) (k:aa aI) (c:Bool):
  ∃v,(Instr.lookup t (.map (some b)) (gZ aI k) c).run P w= .ok (if c then .tuple #[v,.bool (b0 l k).isSome] else v) w/\jT I w aK ((b0 l k).getD (cR aK)) v:=by
 have J:=fun e=>MapKept.run_checkKey (P:=P) (w:=w) Z (sC H k) e 9999
 rcases Ci (I:=I) (w:=w) H k l bV 0 ay with⟨b4,cf,_⟩ |⟨j,x,e,b4,cf,_,_,a5,_⟩
 .refine⟨aB,?_,by rw[cf];exact rt⟩;have hf:=MapKept.run_findKey (P:=P) (w:=w) Z b4;rw[cf];simp[Instr.lookup,run_underlying cm,ay2 O,J,hf,aN,Result.andThen]
 .refine⟨e.val,?_,by rw[cf];exact a5⟩;have hf:=MapKept.run_findKey (P:=P) (w:=w) Z b4;rw[cf];simp[Instr.lookup,run_underlying cm,ay2 O,J,hf,Result.andThen]
def PM: ∀{l:List (aa aI×aa aK)} {es:aI7},iG I w aI aK l es-> ∀{k:aa aI} {x:aa aK} {e:MapEntry},e.key=gZ aI k->jT I w aK x e.val->iG I w aI aK (l++[(k,x)]) (es++[e])
 | [],_,h,k,x,e,E,G=>by rw[show _=[] from h];exact⟨e,[],rfl,E,G,rfl⟩
 |p::l,_,⟨b9,r,h,b4,cf,a3⟩,k,x,e,E,G=>by rw[h];exact⟨b9,r++[e],rfl,b4,cf,PM a3 E G⟩
def PN: ∀{l:List (aa aI×aa aK)} {es:aI7},iG I w aI aK l es-> ∀{k:aa aI} {x:aa aK} {e:MapEntry} (j:Nat),e.key=gZ aI k->jT I w aK x e.val->iG I w aI aK (l.set j (k,x)) (es.set j e)
 | [],_,h,k,x,e,j,E,G=>by rw[show _=[] from h];rfl
 |p::l,_,⟨b9,r,h,b4,cf,a3⟩,k,x,e,0,E,G=>by rw[h];exact⟨e,r,rfl,E,G,a3⟩
 |p::l,_,⟨b9,r,h,b4,cf,a3⟩,k,x,e,j+1,E,G=>by rw[h];exact⟨b9,r.set j e,rfl,b4,cf,PN a3 j E G⟩
def PO: ∀{l:List (aa aI×aa aK)} {es:aI7},iG I w aI aK l es-> ∀(j:Nat),iG I w aI aK (l.eraseIdx j) (es.eraseIdx j)
 | [],_,h,j=>by rw[show _=[] from h];rfl
 |p::l,_,⟨b9,r,h,b4,cf,a3⟩,0=>by rw[h];exact a3
 |p::l,_,⟨b9,r,h,b4,cf,a3⟩,j+1=>by rw[h];exact⟨b9,r.eraseIdx j,rfl,b4,cf,PO a3 j⟩
def PP {es:aI7} {c:Nat} (h:ms es c) (key val:aI3):ms (es++[⟨key,val,c⟩]) (c+1):=by
 refine⟨?_,fun e U=>?_⟩
 .rw[aw2,List.pairwise_append];refine⟨h.1,aD3,fun a ha b O=>?_⟩;obtain⟨e,U,rfl⟩:=av0.1 ha;simp only[au1,aC3,at7] at O;subst O;exact h.2 e U
 .rcases au4.1 U with U |U
  .have:=h.2 e U;omega
  .simp only[at7] at U;subst U;simp
def Zl {es:aI7} {c:Nat} (h:ms es c) {j:Nat} {bK e:MapEntry} (V:es[j]? =some bK) (O:e.born=bK.born):ms (es.set j e) c:=by
 have ay:(es.set j e).map (·.born)=es.map (·.born):=by
  rw[List.map_set];refine aA3 fun i=>?_
  rw[aA0]
  split
  .rename_i aE;subst aE;have:=(at0.1 V).1;rw[vj (by simpa using this),au8,V,O];rfl
  .rfl
 refine⟨by rw[ay];exact h.1,fun x hx=>?_⟩;have E:x.born∈(es.set j e).map (·.born):=au0 hx;rw[ay] at E;obtain⟨y,aC,Zm⟩:=av0.1 E;rw[<-Zm];exact h.2 y aC
def Zn {es:aI7} {c:Nat} (h:ms es c) (j:Nat):ms (es.eraseIdx j) c:=
 ⟨h.1.sublist ((List.eraseIdx_sublist es j).map _),fun e U=>h.2 e ((List.eraseIdx_sublist es j).subset U)⟩
def Zo (a:aa aI) {d:aJ1} (H:nE aI d=true) (n:Nat):Instr.sameBits (n+1) (gZ aI a) (gZ aI a)=true:=by
 cases aI <;>cases d <;>simp[nE] at H
 .have: ∀(k:IntKind) (a:Int),Instr.sameBits (n+1) (.int k a) (.int k a)=true:=fun k a=>by simp[Instr.sameBits]
  exact this _ a
 .simp only[gZ,Instr.sameBits];exact(MapKept.bytes_beq _ _).2 rfl
def Cj {t kt et:aI0} {d:aJ1} (cm:P.underlying t=some (.map kt et)) (Z:P.underlying kt=some d) (H:nE aI d=true) {b:Nat} {bV:aI7} {bY:Nat} (O:w.heap[b]? =some (.map (List.toArray bV) bY))
  {l:List (aa aI×aa aK)} (ay:iG I w aI aK l bV) (cQ:ms bV bY) (k:aa aI) {x:aa aK} {v:aI3} (az:jT I w aK x v):
  ∃eL kl,(Instr.mapUpdate t (.map (some b)) (gZ aI k) v).run P w= .ok () {w with heap:=w.heap.setIfInBounds b (.map (List.toArray eL) kl)}/\iG I w aI aK (dx l k x) eL/\ms eL kl:=by
 have J:=fun e=>MapKept.run_checkKey (P:=P) (w:=w) Z (sC H k) e 9999
 have eB:=fun o=>MapKept.run_setObj_map (P:=P) o O
 rcases Ci (I:=I) (w:=w) H k l bV 0 ay with⟨b4,cf,a3,_⟩ |⟨j,y,e,b4,cf,a3,a4,a5,gR,_⟩
 .have hf:=MapKept.run_findKey (P:=P) (w:=w) Z b4;refine⟨bV++[⟨gZ aI k,v,bY⟩],bY+1,?_,by rw[a3];exact PM ay rfl az,PP cQ _ _⟩;simp[Instr.mapUpdate,run_underlying cm,ay2 O,J,hf,eB,Result.andThen]
 .have hf:=MapKept.run_findKey (P:=P) (w:=w) Z b4;have sB:=(at0.1 a3).1;refine⟨bV.set j ⟨gZ aI k,v,e.born⟩,bY,?_,by rw[gR];exact PN ay j rfl az,Zl cQ a3 rfl⟩
  have PQ:bV.modify j (fun b9=>{b9 with key:=gZ aI k,val:=v})=bV.set j ⟨gZ aI k,v,e.born⟩:=by
   refine aA3 fun i=>?_
   rw[List.getElem?_modify,aA0]
   by_cases g3:j=i
   .subst g3;have U:=(at0.1 a3).2;simp[sB,U]
   .simp[g3]
  simp[Instr.mapUpdate,run_underlying cm,ay2 O,J,hf,eB,Result.andThen,a3,a4,Instr.keyThatStays,Zo k H,PQ]
def PR {t kt et ty:aI0} {d:aJ1} (cm:P.underlying t=some (.map kt et)) (Z:P.underlying kt=some d) (H:nE aI d=true) {b:Nat} {bV:aI7} {bY:Nat} (O:w.heap[b]? =some (.map (List.toArray bV) bY))
  {l:List (aa aI×aa aK)} (ay:iG I w aI aK l bV) (cQ:ms bV bY) (k:aa aI) (Zp:aI0):
  ∃eL,(Builtin.delete_ #[t,Zp] ty #[.map (some b),gZ aI k]).run P w= .ok (.tuple #[]) {w with heap:=w.heap.setIfInBounds b (.map (List.toArray eL) bY)}/\iG I w aI aK (g0 l k) eL/\ms eL bY:=by
 have J:=fun e=>MapKept.run_checkKey (P:=P) (w:=w) Z (sC H k) e 9999
 have eB:=fun o=>MapKept.run_setObj_map (P:=P) o O
 rcases Ci (I:=I) (w:=w) H k l bV 0 ay with⟨b4,cf,_,a3⟩ |⟨j,y,e,b4,cf,a3,a4,a5,_,gR⟩
 .have hf:=MapKept.run_findKey (P:=P) (w:=w) Z b4;refine⟨bV,?_,by rw[a3];exact ay,cQ⟩;simp[Builtin.delete_,run_underlying cm,ay2 O,J,hf,eB,Result.andThen]
 .have hf:=MapKept.run_findKey (P:=P) (w:=w) Z b4;have sB:=(at0.1 a3).1;refine⟨bV.eraseIdx j,?_,by rw[gR];exact PO ay j,Zn cQ j⟩
  have Zq:(List.toArray bV).eraseIdxIfInBounds j=List.toArray (bV.eraseIdx j):=by
   apply Array.ext';unfold Array.eraseIdxIfInBounds;rw[dif_pos (by simpa using sB)];simp
  simp[Builtin.delete_,run_underlying cm,ay2 O,J,hf,eB,Result.andThen,Zq]
def Zr {t:aI0}:(Instr.makeMap t none).run P w= .ok (.map (some w.heap.size)) (w.alloc (.map #[] 0)):=by simp only[Instr.makeMap,aw5,run_newObj_alloc,Result.andThen,ax2]
end
end
section
inductive PS where
 |int (k:IntKind)
 |bool
 |str
 |ptr (e:Nat)
 |cc (e:Nat)
 |st
 |arr (n e:Nat)
 |mp (k e:Nat)
 |other
structure cd where
 kd:PS
 size:Nat
 row:Bool
 zero:List bE
 mZ:List (Nat×Nat)
 u:Option bB
 bytes:Nat
inductive dt where
 |leaf
 |node (l:dt) (k:Nat) (x:cd) (r:dt)
def dt.find:dt->Nat->Option cd
 | .leaf,_=>none
 | .node l k x r,n=>match Nat.blt n k with
  |true=>l.find n
  |false=>match Nat.beq n k with
   |true=>some x
   |false=>r.find n
def zY (x:D) (k:D->Prop):Prop:=match x with
 | .int i n=>k (.int i n)
 | .lit true=>k (.lit true)
 | .lit false=>k (.lit false)
 | .bool b=>k (.bool b)
 | .str s=>k (.str s)
 | .aM x=>k (.aM x)
 | .dz x=>k (.dz x)
 | .fn x=>k (.fn x)
 | .bG u xs=>k (.bG u xs)
def zZ (s:bE) (k:bE->Prop):Prop:=match s with
 | .d x=>zY x fun x=>k (.d x)
 | .ptr c o=>k (.ptr c o)
 | .own c=>k (.own c)
 | .el u x o=>k (.el u x o)
 | .fW c s i o=>k (.fW c s i o)
 | .os c s o n=>k (.os c s o n)
 | .mp c=>k (.mp c)
 | .c3 f l=>k (.c3 f l)
 | .dV=>k .dV
 | .bN v=>k (.bN v)
 | .any=>k .any
def pQ (l:List bE) (k:List bE->Prop):Prop:=match l with
 | []=>k []
 |s::l=>zZ s fun s=>pQ l fun l=>k (s::l)
def xS (x:d0) (k:d0->Prop):Prop:=match x with
 | .one s=>zZ s fun s=>k (.one s)
 | .agg l=>pQ l fun l=>k (.agg l)
 | .kE u x=>k (.kE u x)
def Ff (l:List d0) (k:List d0->Prop):Prop:=match l with
 | []=>k []
 |s::l=>xS s fun s=>Ff l fun l=>k (s::l)
def o7 (x:aS) (k:aS->Prop):Prop:=match x with
 | .c x=>xS x fun x=>k (.c x)
 | .cn l=>Ff l fun l=>k (.cn l)
 | .undef=>k .undef
def Jh (x:D) (k:D->Prop):zY x k=k x:=by
 cases x with
 |lit b=>cases b <;>rfl
 |_=>rfl
def Ji (x:bE) (k:bE->Prop):zZ x k=k x:=by
 cases x with
 |d x=>simp only[zZ,Jh]
 |_=>rfl
def z1 (l:List bE) (k:List bE->Prop):pQ l k=k l:=by
 induction l generalizing k with
 |nil=>rfl
 |cons s l bn=>simp only[pQ,Ji,bn]
def Fg (x:d0) (k:d0->Prop):xS x k=k x:=by
 cases x with
 |one x=>simp only[xS,Ji]
 |agg l=>simp only[xS,z1]
 |kE u x=>rfl
def Zs (l:List d0) (k:List d0->Prop):Ff l k=k l:=by
 induction l generalizing k with
 |nil=>rfl
 |cons s l bn=>simp only[Ff,Fg,bn]
def sD (x:aS) (k:aS->Prop):o7 x k=k x:=by
 cases x with
 |c x=>simp only[o7,Fg]
 |cn l=>simp only[o7,Zs]
 |undef=>rfl
structure fE where
 jE:aH0
 bb:aH0
 iV:List (Nat×Option ba)
abbrev bK:fE:=⟨[],[],[]⟩
def hy:List (Nat×Option ba)->aA->aA
 | [],B=>B
 |(c,none)::l,B=>hy l (g8 B c)
 |(c,some ch)::l,B=>hy l ((c,ch)::B)
def z2 (c:Nat):aH0->Bool
 | []=>false
 |d::l=>match Nat.beq c d with
  |true=>true
  |false=>z2 c l
def uO (ks:aH0):aA->aA
 | []=>[]
 |(c,ch)::B=>match z2 c ks with
  |true=>uO ks B
  |false=>(c,ch)::uO ks B
def Fh: ∀B:aA,uO [] B=B
 | []=>rfl
 |(c,ch)::B=>as5 ((c,ch):: ·) (Fh B)
def PT (c:Nat) (ks:aH0): ∀B:aA,uO (c::ks) B=g8 (uO ks B) c
 | []=>rfl
 |(d,ch)::B=>by
  have bn:=PT c ks B;simp only[uO,z2]
  cases E:Nat.beq d c <;>cases G:z2 d ks <;>simp only[g8,E,bn]
noncomputable def Fi (ks:aH0) (B:aA) (k:aA->Prop):Prop:=match ks with
 | []=>k B
 |ks=>List.rec (motive:=fun _=>(aA->Prop)->Prop) (fun k=>k []) (fun p _ bn k=>match p with
  |(c,ch)=>match z2 c ks with
   |true=>bn k
   |false=>bn fun l=>k ((c,ch)::l)) B k
def PU (ks:aH0) (B:aA) (k:aA->Prop):Fi ks B k=k (uO ks B):=by
 match ks with
 | []=>exact as5 k (Fh B).symm
 |d::ks=>
  show List.rec (motive:=fun _=>(aA->Prop)->Prop) _ _ B k=_
  induction B generalizing k with
  |nil=>rfl
  |cons p l bn=>
   obtain⟨c,ch⟩:=p;simp only[uO]
   cases h:z2 c (d::ks)
   .exact bn _
   .exact bn _
noncomputable def Jj (iV:List (Nat×Option ba)) (ks:aH0) (B:aA) (k:aA->Prop):Prop:=
 List.rec (motive:=fun _=>aH0->aA->Prop) (fun ks B=>Fi ks B k) (fun p _ bn ks B=>match p with
  |(c,none)=>bn (c::ks) B
  |(c,some ch)=>Fi ks B fun B=>bn [] ((c,ch)::B)) iV ks B
noncomputable def xT (iV:List (Nat×Option ba)) (B:aA) (k:aA->Prop):Prop:=Jj iV [] B k
def Zt (iV:List (Nat×Option ba)) (k:aA->Prop): ∀(ks:aH0) (B:aA),Jj iV ks B k=k (hy iV (uO ks B)):=by
 induction iV with
 |nil=>exact fun ks B=>PU ks B k
 |cons p l bn=>
  intro ks B;obtain⟨c,o⟩:=p
  cases o with
  |none=>exact(bn (c::ks) B).trans (by rw[PT];rfl)
  |some ch=>
   show Fi ks B (fun B=>Jj l [] ((c,ch)::B) k)=_;rw[PU,bn,Fh];rfl
def Jk (iV:List (Nat×Option ba)) (B:aA) (k:aA->Prop):xT iV B k=k (hy iV B):=(Zt iV k [] B).trans (by rw[Fh])
def uP (c:Nat):aZ->Bool
 | []=>true
 |(_,v)::K=> !v.has c&&uP c K
def kZ (c:Nat):aA->Bool
 | []=>true
 |(d,ch)::B=> !Nat.beq d c&& !ch.has c&&kZ c B
def hk (ids:aH0) (K:aZ) (B:aA) (c:Nat):Bool:=uP c K&&kZ c B&& !ids.contains c
abbrev k0 (s:bE):aS:=.c (.one s)
abbrev ab (n:Int):aS:=.c (.one (.d (.int .i64 n)))
abbrev fX (b:Bool):aS:=.c (.one (.d (.bool b)))
abbrev qx (b:Bool):aS:=.c (.one (.d (.lit b)))
abbrev bW (s:aG9):aS:=.c (.one (.d (.str s)))
abbrev bP (u:bB) (xs:List (aa u)):aS:=.c (.one (.d (.bG u xs)))
abbrev ap (c:Nat):aS:=.c (.one (.ptr c 0))
abbrev eC (c:Nat):aS:=.c (.one (.own c))
def bE.ok:bE->Bool
 | .any=>false
 | .bN (.agg _)=>false
 | .bN (.tuple _)=>false
 |_=>true
def Fj:List bE->Bool
 | []=>true
 |s::l=>s.ok&&Fj l
def wy:aS->Option (List bE)
 | .c (.one s)=>match s.ok with
  |true=>some [s]
  |false=>none
 | .c (.agg l)=>match Fj l with
  |true=>some l
  |false=>none
 |_=>none
def Ck (l:List bE) (o:Nat) (cs:List bE):List bE:=l.take o++cs++l.drop (o+cs.length)
def wz (K:aZ) (mZ:Nat->Option (Nat×Nat)):List (Nat×Operand)->List bE->Option (List bE)
 | [],l=>some l
 |(i,x)::bI,l=>match mZ i,wy (a7 K x) with
  |some (o,n),some cs=>match Nat.beq cs.length n,Nat.ble (o+n) l.length with
   |true,true=>wz K mZ bI (Ck l o cs)
   |_,_=>none
  |_,_=>none
def ru:(u v:bB)->Option (PLift (u=v))
 | .int .i64,.int .i64=>some ⟨rfl⟩
 | .int .u8,.int .u8=>some ⟨rfl⟩
 | .int .u16,.int .u16=>some ⟨rfl⟩
 | .int .u32,.int .u32=>some ⟨rfl⟩
 | .int .u64,.int .u64=>some ⟨rfl⟩
 | .int .i32,.int .i32=>some ⟨rfl⟩
 | .u8,.u8=>some ⟨rfl⟩
 | .bool,.bool=>some ⟨rfl⟩
 | .str,.str=>some ⟨rfl⟩
 | .aM,.aM=>some ⟨rfl⟩
 | .dz,.dz=>some ⟨rfl⟩
 | .fn,.fn=>some ⟨rfl⟩
 | .cc u,.cc v=>match ru u v with
  |some ⟨h⟩=>some ⟨as5 bB.cc h⟩
  |none=>none
 | .bU u tO,.bU v dr=>match ru u v,ru tO dr with
  |some ⟨h⟩,some ⟨h'⟩=>some ⟨h▸h'▸rfl⟩
  |_,_=>none
 | .arr n u,.arr m v=>match ru u v with
  |some ⟨h⟩=>if hn:n=m then some ⟨hn▸h▸rfl⟩ else none
  |none=>none
 |_,_=>none
def mw:IntKind->IntKind->Bool
 | .i64,.i64=>true
 | .u8,.u8=>true
 | .u16,.u16=>true
 | .u32,.u32=>true
 | .u64,.u64=>true
 | .i32,.i32=>true
 | .i16,.i16=>true
 | .i8,.i8=>true
 |_,_=>false
def og {u v:bB} (h:u=v) (xs:List (aa u)):List (aa v):=match v,h with
 |_,rfl=>xs
def Jl {u v:bB} (h:u=v) (x:aa u):aa v:=match v,h with
 |_,rfl=>x
def Jm (x y:D):Prop:=match x,y with
 | .int k a,.int ea b=>match mw k ea with
  |true=>a=b
  |false=>False
 | .str a,.str b=>a=b
 | .aM a,.aM b=>a=b
 | .dz a,.dz b=>a=b
 | .fn a,.fn b=>a=b
 | .bool a,.bool b=>a=b
 | .lit a,.lit b=>a=b
 | .lit a,.bool b=>a=b
 | .bG u xs,.bG v ys=>match ru u v with
  |some ⟨h⟩=>og h xs=ys
  |none=>False
 |_,_=>False
def Fk (s t:bE):Prop:=match t,s with
 | .any,_=>True
 | .d y,.d x=>Jm x y
 | .d (.bG u ys),.dV=>ys=[]
 |t,s=>s=t
def Fl:List bE->List bE->Prop
 | [],[]=>True
 |s::l,t::m=>Fk s t/\Fl l m
 |_,_=>False
def Fm (s t:d0):Prop:=match s,t with
 | .one s,.one t=>Fk s t
 | .agg l,.agg m=>Fl l m
 | .agg _,.one .any=>True
 | .kE u x,.kE v y=>match ru u v with
  |some ⟨h⟩=>Jl h x=y
  |none=>False
 | .kE _ _,.one .any=>True
 |_,_=>False
def Jn:List d0->List d0->Prop
 | [],[]=>True
 |s::l,t::m=>Fm s t/\Jn l m
 |_,_=>False
def sE (s t:aS):Prop:=match s,t with
 | .c s,.c t=>Fm s t
 | .cn l,.cn m=>Jn l m
 | .undef,.undef=>True
 |_,.c (.one .any)=>True
 |_,_=>False
def Fo:List aS->List aS->Prop
 | [],[]=>True
 |s::l,t::m=>sE s t/\Fo l m
 |_,_=>False
def Jo:Option Prop->Option Prop->Option Prop
 |none,q=>q
 |some p,none=>some p
 |some p,some q=>some (p/\q)
def uQ:Option Prop->Prop
 |none=>True
 |some p=>p
def Jp (k:IntKind):List bE->Option (Int×List bE×Option Prop)
 | .d (.int ea n)::l=>match mw ea k with
  |true=>some (n,l,none)
  |false=>none
 |_=>none
def Jq:List bE->Option (UInt8×List bE×Option Prop)
 | .d (.int ea n)::l=>match mw ea .u8 with
  |true=>some (UInt8.ofNat n.toNat,l,some (0<=n/\n < 256))
  |false=>none
 |_=>none
def Jr:List bE->Option (Bool×List bE×Option Prop)
 | .d (.lit b)::l=>some (b,l,none)
 | .d (.bool b)::l=>some (b,l,none)
 |_=>none
def Js:List bE->Option (aG9×List bE×Option Prop)
 | .d (.str s)::l=>some (s,l,none)
 |_=>none
def Jt:List bE->Option (Option Nat×List bE×Option Prop)
 | .d (.aM x)::l=>some (x,l,none)
 | .bN (.pointer none)::l=>some (none,l,none)
 |_=>none
def Ju:List bE->Option (Option (Nat×Nat×Nat)×List bE×Option Prop)
 | .d (.dz x)::l=>some (x,l,none)
 | .dV::l=>some (none,l,none)
 |_=>none
def Cl:List lo->Option aH0
 | []=>some []
 | .d (.aM (some b))::l=>match Cl l with
  |some r=>some (b::r)
  |none=>none
 |_=>none
def Jv:List bE->Option ((Nat×aH0)×List bE×Option Prop)
 | .d (.fn x)::l=>some (x,l,none)
 | .c3 f m::l=>match Cl m with
  |some bs=>some ((f,bs),l,none)
  |none=>none
 |_=>none
def Jw (u:bB):List bE->Option (List (aa u)×List bE×Option Prop)
 | .dV::l=>some ([],l,none)
 | .d (.bG v xs)::l=>match ru v u with
  |some ⟨h⟩=>some (og h xs,l,none)
  |none=>none
 |_=>none
def oh:(u:bB)->List bE->Option (aa u×List bE×Option Prop)
 | .int k,l=>Jp k l
 | .u8,l=>Jq l
 | .bool,l=>Jr l
 | .str,l=>Js l
 | .aM,l=>Jt l
 | .dz,l=>Ju l
 | .fn,l=>Jv l
 | .cc u,l=>Jw u l
 | .bU u v,l=>match oh u l with
  |some (x,l,p)=>match oh v l with
   |some (y,l,q)=>some ((x,y),l,Jo p q)
   |none=>none
  |none=>none
 | .arr _ _,_=>none
def xU (u:bB):Nat->List bE->Option (List (aa u)×Option Prop)
 |0,[]=>some ([],none)
 |0,_=>none
 |n+1,l=>match oh u l with
  |some (x,l,p)=>match xU u n l with
   |some (xs,q)=>some (x::xs,Jo p q)
   |none=>none
  |none=>none
def Fp (n:Nat) (l:List bE):List bE:=match n with
 |0=>[]
 |n+1=>l++Fp n l
def gI (u:bB) (x:aa u) (o:Nat):Nat->List bE
 |0=>[]
 |n+1=>.d (fS u x o)::gI u x (o+1) n
def uR (k:IntKind) (n:Int):Prop:=match k with
 | .i64=> -9223372036854775808<=n/\n<=9223372036854775807
 | .u8=>0<=n/\n < 256
 | .u16=>0<=n/\n < 65536
 | .u32=>0<=n/\n < 4294967296
 | .u64=>0<=n/\n < 18446744073709551616
 | .i32=> -2147483648<=n/\n<=2147483647
 | .i16=> -32768<=n/\n<=32767
 | .i8=> -128<=n/\n<=127
def jU (P:aH6) (f:aI5):Bool:=match P.funcs[f]? with
 |some fn=> !(fn.name == "runtime.NumGoroutine" ||fn.body.isNone)
 |none=>false
def Fn (P:aH6) (f:aI5) (args:List aS) (aJ:aA) (bb:aH0) (res:aS) (aT:aA):Prop:=
 jU P f=true/\ ∀(ρ:Nat->bq) (F:Nat->Nat->Prop) (I:Nat->Prop) (w:aH5) (bZ:aH4),
  (∀b,I b->b < w.heap.size)->(∀c ch,aj aJ c=some ch->Holds ρ I (F c) w (ρ c) ch)->(∀c ch,aj aJ c=some ch-> ∀b,F c b->b < w.heap.size/\ ¬I b)->
  (∀c ca ch ch' b,aj aJ c=some ch->aj aJ ca=some ch'->c≠ca->F c b-> ¬F ca b)->
  bZ.length=args.length->(∀(i:Nat) (v:aS) (x:aI3),args[i]? =some v->bZ[i]? =some x->cA ρ I w v x)->
  Calls P f bZ.toArray w fun e w'=> ∃(x:aI3) (ρ':Nat->bq) (F':Nat->Nat->Prop),e= .returned x/\cZ (fun b=> ∃c ch,aj aJ c=some ch/\F c b) w w'/\(∀c,c∉bb->ρ' c=ρ c)/\
   ∃I':Nat->Prop,cp I w I' w'/\(∀b,I' b->b < w'.heap.size/\(I b\/(∃c ch,aj aJ c=some ch/\F c b)\/w.heap.size<=b))/\
   (∀c ch,aj aT c=some ch->Holds ρ' I' (F' c) w' (ρ' c) ch)/\
   (∀c ch,aj aT c=some ch-> ∀b,F' c b->b < w'.heap.size/\ ¬I' b/\((∃g9 cG,aj aJ g9=some cG/\F g9 b)\/w.heap.size<=b))/\
   (∀c ca ch ch' b,aj aT c=some ch->aj aT ca=some ch'->c≠ca->F' c b-> ¬F' ca b)/\cA ρ' I' w' res x
def lq (B:aA):aA->Prop
 | []=>True
 |(c,ch)::l=>aj B c=some ch/\lq B l
def ct:aA->aH0
 | []=>[]
 |(c,_)::l=>c::ct l
def Jx:aA->List (Nat×Option ba)
 | []=>[]
 |(c,ch)::l=>(c,some ch)::Jx l
def iW:aA->aA->List (Nat×Option ba)
 | [],m=>Jx m
 |(c,_)::l,m=>(c,none)::iW l m
def m0 (aJ:aA) (bb:aH0):aA->Bool
 | []=>true
 |(c,_)::l=>((ct aJ).contains c||bb.contains c)&& !(ct l).contains c&&m0 aJ bb l
def sF (ids:aH0) (K:aZ) (B:aA):aH0->Bool
 | []=>true
 |c::l=>hk ids K B c&& !l.contains c&&sF ids K B l
def xV (P:aH6) (f:aI5) (args:List aS) (ids:aH0) (K:aZ) (B:aA) (k:aS->fE->Prop):Prop:=
 ∃aJ bb res aT,Fn P f args aJ bb res aT/\lq B aJ/\(sF ids K B bb&&m0 aJ bb aT)=true/\o7 res fun r=>k r ⟨ct aJ,bb,iW aJ aT⟩
def oi (k:IntKind) (n:Int) (q:Prop):Prop:=match k with
 | .i64=>(-9223372036854775808<=n/\n<=9223372036854775807)/\q
 | .u8=>(0<=n/\n < 256)/\q
 | .u16=>(0<=n/\n < 65536)/\q
 | .u32=>(0<=n/\n < 4294967296)/\q
 | .u64=>(0<=n/\n < 18446744073709551616)/\q
 | .i32=>(-2147483648<=n/\n<=2147483647)/\q
 | .i16=>(-32768<=n/\n<=32767)/\q
 | .i8=>(-128<=n/\n<=127)/\q
def xW {k:IntKind} {n:Int} {q:Prop} (h:oi k n q):uR k n/\q:=by cases k <;>exact h
def xX:List aS->Option (List lo)
 | []=>some []
 | .c (.one (.ptr c o))::l=>match xX l with
  |some r=>some (.p c o::r)
  |none=>none
 | .c (.one (.d x))::l=>match xX l with
  |some r=>some (.d x::r)
  |none=>none
 |_=>none
def uS:aH0->List aS
 | []=>[]
 |b::l=>.c (.one (.d (.aM (some b))))::uS l
def o8:List lo->List aS
 | []=>[]
 | .p c o::l=>.c (.one (.ptr c o))::o8 l
 | .d x::l=>.c (.one (.d x))::o8 l
def Fq (op:BinOp) (x y:aS) (k:aS->fE->Prop):Prop:=match x,y with
 | .c (.one (.d (.int i a))),.c (.one (.d (.int j b)))=>match mw i j,op with
  |true,.add=>oi i (a+b) (k (.c (.one (.d (.int i (a+b))))) bK)
  |true,.sub=>oi i (a - b) (k (.c (.one (.d (.int i (a - b))))) bK)
  |true,.mul=>oi i (a*b) (k (.c (.one (.d (.int i (a*b))))) bK)
  |true,.quo=>(0<=a/\0 < b)/\oi i (a/b) (k (.c (.one (.d (.int i (a/b))))) bK)
  |true,.rem=>(0<=a/\0 < b)/\oi i (a % b) (k (.c (.one (.d (.int i (a % b))))) bK)
  |_,.shl=>match mw i .i64 with
   |true=>(0<=a/\0<=b/\b<=64)/\oi i (a*(2 ^b.toNat:Nat)) (k (.c (.one (.d (.int i (a*(2 ^b.toNat:Nat)))))) bK)
   |false=>False
  |_,.shr=>match mw i .i64 with
   |true=>(0<=a/\0<=b/\b<=64)/\k (.c (.one (.d (.int i (a/(2 ^b.toNat:Nat)))))) bK
   |false=>False
  |true,.or=>match mw i .i64 with
   |true=>(0<=a/\a<=9223372036854775807/\0<=b/\b<=9223372036854775807)/\k (.c (.one (.d (.int i ((a.toNat ||| b.toNat:Nat):Int))))) bK
   |false=>False
  |true,.eql=>k (.c (.one (.d (.bool (decide (a=b)))))) bK
  |true,.neq=>k (.c (.one (.d (.bool (!decide (a=b)))))) bK
  |true,.lss=>k (.c (.one (.d (.bool (decide (a < b)))))) bK
  |true,.leq=>k (.c (.one (.d (.bool (decide (a<=b)))))) bK
  |true,.gtr=>k (.c (.one (.d (.bool (decide (b < a)))))) bK
  |true,.geq=>k (.c (.one (.d (.bool (decide (b<=a)))))) bK
  |_,_=>False
 | .c (.one (.d (.str a))),.c (.one (.d (.str b)))=>match op with
  | .add=>a.length+b.length<=4294967296/\k (.c (.one (.d (.str (a++b))))) bK
  | .eql=>k (.c (.one (.d (.bool (decide (a=b)))))) bK
  | .neq=>k (.c (.one (.d (.bool (!decide (a=b)))))) bK
  | .lss=>k (.c (.one (.d (.bool (Op.bytesLess a b))))) bK
  | .leq=>k (.c (.one (.d (.bool (Op.bytesLess a b||decide (a=b)))))) bK
  | .gtr=>k (.c (.one (.d (.bool (!(Op.bytesLess a b||decide (a=b))))))) bK
  | .geq=>k (.c (.one (.d (.bool (!Op.bytesLess a b))))) bK
  |_=>False
 | .c (.one (.ptr _ _)),.c (.one (.bN (.pointer none)))=>match op with
  | .eql=>k (.c (.one (.d (.lit false)))) bK
  | .neq=>k (.c (.one (.d (.lit true)))) bK
  |_=>False
 | .c (.one (.bN (.pointer none))),.c (.one (.bN (.pointer none)))=>match op with
  | .eql=>k (.c (.one (.d (.lit true)))) bK
  | .neq=>k (.c (.one (.d (.lit false)))) bK
  |_=>False
 |_,_=>False
def Jy (aV:dt) (T:Nat):Bool:=match aV.find T with
 |some ti=>match ti.kd with
  | .ptr _=>true
  |_=>false
 |none=>false
def z6 (aV:dt) (T:Nat):Bool:=match aV.find T with
 |some ti=>match ti.kd with
  | .ptr e=>match aV.find e with
   |some _=>true
   |none=>false
  |_=>false
 |none=>false
def Fr (aV:dt) (T:Nat) (x:aI1) (y:aS) (k:Bool->Prop):Prop:=match y with
 | .c (.one (.bN (.pointer none)))=>(∀b,x=some b->k false)/\(x=none->k true)
 | .c (.one (.d (.aM y)))=>match z6 aV T with
  |true=>x=y/\k true
  |false=>False
 |_=>False
def Fs (aV:dt) (T:Nat) (op:BinOp) (x y:aS) (k:aS->fE->Prop):Prop:=match x with
 | .c (.one (.d (.aM x)))=>match op with
  | .eql=>Fr aV T x y fun b=>k (.c (.one (.d (.lit b)))) bK
  | .neq=>Fr aV T x y fun b=>k (.c (.one (.d (.lit !b)))) bK
  |_=>False
 |x=>Fq op x y k
def Ft (aV:dt) (T:Nat):Bool:=match aV.find T with
 |some ti=>match ti.kd with
  | .bool=>true
  |_=>false
 |none=>false
def Fu (op:BinOp) (a:Bool) (y:aS) (k:aS->fE->Prop):Prop:=match op,y with
 | .eql,.c (.one (.d (.bool b)))=>k (.c (.one (.d (.bool (a == b))))) bK
 | .eql,.c (.one (.d (.lit b)))=>k (.c (.one (.d (.bool (a == b))))) bK
 | .neq,.c (.one (.d (.bool b)))=>k (.c (.one (.d (.bool (!(a == b)))))) bK
 | .neq,.c (.one (.d (.lit b)))=>k (.c (.one (.d (.bool (!(a == b)))))) bK
 |_,_=>False
def Jz (aV:dt) (T f:Nat):Option (Nat×Nat):=match aV.find T with
 |some ti=>match ti.kd with
  | .st=>ti.mZ[f]?
  |_=>none
 |none=>none
def elemOf (aV:dt) (T:Nat):Option (Nat×cd):=match aV.find T with
 |some ti=>match ti.kd with
  | .cc e=>match aV.find e with
   |some te=>some (e,te)
   |none=>none
  |_=>none
 |none=>none
def xY (aV:dt) (T:Nat):Bool:=match aV.find T with
 |some ti=>match ti.kd with
  | .str=>true
  |_=>false
 |none=>false
def xZ (aV:dt) (T:Nat):Option (Nat×Nat):=match aV.find T with
 |some ti=>match ti.kd with
  | .mp k e=>some (k,e)
  |_=>none
 |none=>none
def JA (aV:dt) (T:Nat) (B:aA) (x:aS):Option (Nat×aH0):=match x with
 | .c (.one (.d (.str s)))=>match xY aV T with
  |true=>some (s.length,[])
  |false=>none
 | .c (.one (.d (.bG _ xs)))=>match elemOf aV T with
  |some _=>some (xs.length,[])
  |none=>none
 | .c (.one .dV)=>match elemOf aV T with
  |some _=>some (0,[])
  |none=>none
 | .c (.one (.own c))=>match elemOf aV T with
  |some _=>match aj B c with
   |some (.row _ _ xs)=>some (xs.length,[c])
   |_=>none
  |none=>none
 | .c (.one (.mp c))=>match xZ aV T with
  |some _=>match aj B c with
   |some (.map _ _ es)=>some (es.length,[c])
   |_=>none
  |none=>none
 |_=>none
def rv (aV:dt) (e:Nat):Bool:=match aV.find e with
 |some te=>match te.kd,te.zero,te.size,te.bytes with
  | .int .u8,[.d (.int .u8 0)],1,1=>true
  |_,_,_,_=>false
 |none=>false
def JB (aV:dt) (S T:Nat) (x:aS) (B:aA) (k:aS->fE->Prop):Prop:=match aV.find S,aV.find T with
 |some PV,some ti=>match PV.kd,ti.kd,x with
  | .int i,.int j,.c (.one (.d (.int _ n)))=>match mw j .u8,mw i .u8 with
   |true,false=>k (.c (.one (.d (.int j (n % 256))))) bK
   |_,_=>oi j n (k (.c (.one (.d (.int j n)))) bK)
  | .str,.cc e,.c (.one (.d (.str s)))=>match rv aV e with
   |true=>s.length<=4294967296/\k (.c (.one (.d (.bG .u8 s)))) bK
   |false=>False
  | .cc e,.str,.c (.one (.d (.bG .u8 s)))=>match rv aV e with
   |true=>k (.c (.one (.d (.str s)))) bK
   |false=>False
  | .cc e,.str,.c (.one .dV)=>match rv aV e with
   |true=>k (.c (.one (.d (.str [])))) bK
   |false=>False
  | .cc e,.str,.c (.one (.own c))=>match aj B c,rv aV e with
   |some (.row _ .u8 s),true=>k (.c (.one (.d (.str s)))) ⟨[c],[],[]⟩
   |_,_=>False
  |_,_,_=>False
 |_,_=>False
def z7 (n:Nat) (iv aE:Option aS):Option (Nat×Nat×Prop):=match iv,aE with
 |none,some (.c (.one (.d (.int .i64 j))))=>some (0,j.toNat,0<=j/\j<=n)
 |some (.c (.one (.d (.int .i64 i)))),none=>some (i.toNat,n,0<=i/\i<=n)
 |some (.c (.one (.d (.int .i64 i)))),some (.c (.one (.d (.int .i64 j))))=>some (i.toNat,j.toNat,0<=i/\i<=j/\j<=n)
 |none,none=>some (0,n,True)
 |_,_=>none
def JC (aV:dt) (T:Nat) (x:aS) (iv aE:Option aS) (k:aS->fE->Prop):Prop:=match x with
 | .c (.one (.d (.str s)))=>match xY aV T,z7 s.length iv aE with
  |true,some (l,h,p)=>p/\k (.c (.one (.d (.str ((s.take h).drop l))))) bK
  |_,_=>False
 | .c (.one (.d (.bG u xs)))=>match elemOf aV T,z7 xs.length iv aE with
  |some (_,te),some (l,h,p)=>match Nat.beq te.size (aR u) with
   |true=>p/\k (.c (.one (.d (.bG u ((xs.take h).drop l))))) bK
   |false=>False
  |_,_=>False
 |_=>False
def JD (aV:dt) (T:Nat) (x y:aS) (dst:aI1) (ids:aH0) (K:aZ) (B:aA) (k:aS->fE->Prop):Prop:=match elemOf aV T,dst with
 |some (e,te),some d=>match te.u,y with
  |some u,.c (.one (.d (.bG v ys)))=>match ru v u with
   |some ⟨h⟩=>match x with
    | .c (.one .dV)=>ys.length<=4294967296/\hk ids K B d=true/\k (.c (.one (.own d))) ⟨[],[d],[(d,some (.row e u (og h ys)))]⟩
    | .c (.one (.own c))=>match aj B c with
     |some (.row b9 tO xs)=>match Nat.beq b9 e,ru tO u with
      |true,some ⟨h'⟩=>xs.length+ys.length<=4294967296/\hk ids K B d=true/\k (.c (.one (.own d))) ⟨[c],[d],[(c,none),(d,some (.row e u (og h' xs++og h ys)))]⟩
      |_,_=>False
     |_=>False
    |_=>False
   |none=>False
  |some u,.c (.one (.own cv))=>match x with
   | .c (.one (.own c))=>match aj B c,aj B cv with
    |some (.row b9 tO xs),some (.row ao v ys)=>match Nat.beq c cv,Nat.beq b9 e,ru v u,ru tO u with
     |false,true,some ⟨h⟩,some ⟨h'⟩=>xs.length+ys.length<=4294967296/\hk ids K B d=true/\k (.c (.one (.own d))) ⟨[c,cv],[d],[(c,none),(d,some (.row e u (og h' xs++og h ys)))]⟩
     |_,_,_,_=>False
    |_,_=>False
   |_=>False
  |_,_=>False
 |_,_=>False
def JE (aV:dt) (T e8:Nat) (x y:aS) (dst:aI1) (ids:aH0) (K:aZ) (B:aA) (k:aS->fE->Prop):Prop:=match elemOf aV T,xY aV e8,dst with
 |some (e,te),true,some d=>match x,y with
  | .c (.one (.own c)),.c (.one (.d (.str s)))=>match rv aV e,aj B c with
   |true,some (.row b9 .u8 xs)=>match Nat.beq b9 e with
    |true=>List.length (α:=UInt8) xs+s.length<=4294967296/\hk ids K B d=true/\k (.c (.one (.own d))) ⟨[c],[d],[(c,none),(d,some (.row e .u8 (List.append (α:=UInt8) xs s)))]⟩
    |false=>False
   |_,_=>False
  |_,_=>False
 |_,_,_=>False
def x0:(aI:bB)->aS->Option (aa aI)
 | .int k,.c (.one (.d (.int ea n)))=>match mw ea k with
  |true=>some n
  |false=>none
 | .str,.c (.one (.d (.str s)))=>some s
 |_,_=>none
def z8:(u:bB)->aa u->d0
 | .bU u v,x=>.agg (gI (.bU u v) x 0 (aR (.bU u v)))
 | .arr n u,x=>.agg (gI (.arr n u) x 0 (aR (.arr n u)))
 | .int k,x=>.one (.d (fS (.int k) x 0))
 | .u8,x=>.one (.d (fS .u8 x 0))
 | .bool,x=>.one (.d (fS .bool x 0))
 | .str,x=>.one (.d (fS .str x 0))
 | .aM,x=>.one (.d (fS .aM x 0))
 | .dz,x=>.one (.d (fS .dz x 0))
 | .fn,x=>.one (.d (fS .fn x 0))
 | .cc u,x=>.one (.d (fS (.cc u) x 0))
def Fv:bE->D->Bool
 | .d (.int k n),.int ea m=>mw k ea&&decide (n=m)
 | .d (.str []),.str []=>true
 | .bN (.pointer none),.aM none=>true
 | .dV,.dz none=>true
 | .d (.lit b),.bool c=>b == c
 | .dV,.bG _ []=>true
 |_,_=>false
def iX:List bE->List bE->Bool
 | [],[]=>true
 |s::l,.d x::m=>Fv s x&&iX l m
 |_,_=>false
def x1 (aV:dt) (kt:Nat) (aI:bB):Bool:=match aV.find kt with
 |some ti=>match ti.kd,aI with
  | .int k,.int ea=>mw k ea
  | .str,.str=>true
  |_,_=>false
 |none=>false
def Fw (aV:dt) (et:Nat) (aK:bB):Bool:=match aV.find et with
 |some ti=>iX ti.zero (gI aK (cR aK) 0 (aR aK))&&(ti.row == !nD aK)&&(nD aK||Nat.ble 2 (aR aK))
 |none=>false
def JF (aV:dt) (T:Nat) (x i:aS) (ok:Bool) (B:aA) (k:aS->fE->Prop):Prop:=match x with
 | .c (.one (.mp c))=>match aj B c with
  |some (.map aI aK es)=>match xZ aV T,x0 aI i with
   |some (kt,et),some key=>match x1 aV kt aI&&Fw aV et aK,ok with
    |true,true=>xS (z8 aK ((b0 es key).getD (cR aK))) fun x=>k (.cn [x,.one (.d (.bool (b0 es key).isSome))]) ⟨[c],[],[]⟩
    |true,false=>xS (z8 aK ((b0 es key).getD (cR aK))) fun x=>k (.c x) ⟨[c],[],[]⟩
    |false,_=>False
   |_,_=>False
  |_=>False
 |_=>False
def JG (u:bB) (x:aS):Option (aa u×Option Prop):=match x with
 | .c (.kE v y)=>match ru v u,nD u with
  |some ⟨h⟩,false=>some (Jl h y,none)
  |_,_=>none
 | .c (.one s)=>match nD u,oh u [s] with
  |true,some (y,[],p)=>some (y,p)
  |_,_=>none
 | .c (.agg l)=>match nD u,oh u l with
  |false,some (y,[],p)=>some (y,p)
  |_,_=>none
 |_=>none
def JH (aV:dt) (T:Nat) (x i v:aS) (B:aA) (k:aS->fE->Prop):Prop:=match x with
 | .c (.one (.mp c))=>match aj B c with
  |some (.map aI aK es)=>match xZ aV T,x0 aI i with
   |some (kt,et),some key=>match x1 aV kt aI,JG aK v with
    |true,some (y,p)=>uQ p/\k .undef ⟨[c],[],[(c,some (.map aI aK (dx es key y)))]⟩
    |true,none=>match v,nD aK with
     | .c (.agg l),false=> ∃y:aa aK,(o4 aK y/\l=gI aK y 0 (aR aK))/\k .undef ⟨[c],[],[(c,some (.map aI aK (dx es key y)))]⟩
     |_,_=>False
    |false,_=>False
   |_,_=>False
  |_=>False
 |_=>False
def JI (aV:dt) (T:Nat) (x i:aS) (B:aA) (k:aS->fE->Prop):Prop:=match x with
 | .c (.one (.mp c))=>match aj B c with
  |some (.map aI aK es)=>match xZ aV T,x0 aI i with
   |some (kt,et),some key=>match x1 aV kt aI with
    |true=>k (.cn []) ⟨[c],[],[(c,some (.map aI aK (g0 es key)))]⟩
    |false=>False
   |_,_=>False
  |_=>False
 |_=>False
def JJ (aV:dt) (T:Nat) (dst:aI1) (ids:aH0) (K:aZ) (B:aA) (k:aS->fE->Prop):Prop:=match xZ aV T,dst with
 |some (kt,et),some d=>match aV.find kt,aV.find et with
  |some PW,some wA=>match PW.u,wA.u with
   |some aI,some aK=>hk ids K B d=true/\k (.c (.one (.mp d))) ⟨[],[d],[(d,some (.map aI aK []))]⟩
   |_,_=>False
  |_,_=>False
 |_,_=>False
def JK (aV:dt) (T c:Nat) (B:aA) (k:aS->fE->Prop):Prop:=match aV.find T with
 |some ti=>match ti.kd,ti.u with
  | .arr n e,some (.arr m v)=>match Nat.beq n m&&Nat.ble n 1000000&&Nat.blt 0 n,aV.find e,aj B c with
   |true,some _,some (.cells l)=> ∃ys:List (aa v),(o4 (.arr n v) ys/\l=gI (.arr n v) ys 0 (aR (.arr n v)))/\k (.c (.one (.d (.bG v ys)))) ⟨[c],[],[(c,none)]⟩
   |_,_,_=>False
  |_,_=>False
 |none=>False
def JL (aV:dt) (T:Nat) (x:aS) (k:aS->fE->Prop):Prop:=match aV.find T,x with
 |some ti,.c (.one (.d (.bG v xs)))=>match ti.kd with
  | .arr n _=>(0 < n/\n<=List.length xs)/\k (.c (.one (.el (.arr n v) (List.take n xs) 0))) bK
  |_=>False
 |_,_=>False
def bD (P:aH6) (N:Nat) (ids:aH0) (o:Oper) (K:aZ) (B:aA) (v:aS) (e:fE):Prop:=
 ∀(K':aZ) (B':aA),(∀x,x∈o.op.operands->a7 K' x=a7 K x)->(∀c,c∈e.jE->aj B' c=aj B c)->(∀c,c∈e.bb->hk ids K' B' c=true)->
  ∀(C:fv) (a:Act) (w:aH5),fe N ids C K' B' a w->(∀d,o.dst=some d->d < N)-> ∀(ga:Act->World->Prop) (Q:Exit->Act->World->Prop),
   (∀a' w',fe N ids C (mY o.dst v K') (hy e.iV B') a' w'->ga a' w')->o.wp P a w ga Q
def laid (xs:aG9) (off n:Nat) (ys:aG9):aG9:=xs.take off++ys.take n++xs.drop (off+(ys.take n).length)
def Fx (c off n:Nat) (ys:aG9) (B:aA) (k:aS->fE->Prop):Prop:=match aj B c with
 |some (.row e .u8 xs)=>off+n<=xs.length/\k (.c (.one .any)) ⟨[c],[],[(c,some (.row e .u8 (laid xs off n ys)))]⟩
 |_=>False
def JM (aV:dt) (T:Nat) (x y:aS) (B:aA) (k:aS->fE->Prop):Prop:=match elemOf aV T with
 |some (e,_)=>match rv aV e,y with
  |true,.c (.one (.d (.bG .u8 ys)))=>match x with
   | .c (.one (.own c))=>match aj B c with
    |some (.row _ .u8 xs)=>Fx c 0 (List.length xs) ys B k
    |_=>False
   | .c (.one (.os c s off n))=>match Nat.beq s 1 with
    |true=>Fx c off n ys B k
    |false=>False
   |_=>False
  |_,_=>False
 |none=>False
def Zu:aS->Bool
 | .c (.one (.own _))=>true
 |_=>false
def Cm (P:aH6) (ids:aH0) (o:Oper) (K:aZ) (B:aA) (k:aS->fE->Prop):Prop:=
 ∃v e,(∀N,bD P N ids o K B v e)/\sF ids K B e.bb=true/\o7 v fun v=>k v e
def JN (P:aH6) (aV:dt) (ids:aH0) (o:Oper) (K:aZ) (B:aA) (k:aS->fE->Prop):Prop:=match o.op with
 | .move x=>o7 (a7 K x) fun v=>k v bK
 | .assign x=>o7 (a7 K x) fun v=>k v bK
 | .pick c x y=>match a7 K c with
  | .c (.one (.d (.lit true)))=>o7 (a7 K x) fun v=>k v bK
  | .c (.one (.d (.lit false)))=>o7 (a7 K y) fun v=>k v bK
  |_=>False
 | .binOp op T x y _=>match op,Jy aV T with
  | .eql,true=>Fs aV T .eql (a7 K x) (a7 K y) k
  | .neq,true=>Fs aV T .neq (a7 K x) (a7 K y) k
  |op,false=>match a7 K x with
   | .c (.one (.ptr _ _))=>False
   | .c (.one (.bN _))=>False
   | .c (.one (.d (.bool a)))=>match Ft aV T with
    |true=>Fu op a (a7 K y) k
    |false=>False
   | .c (.one (.d (.lit a)))=>match Ft aV T with
    |true=>Fu op a (a7 K y) k
    |false=>False
   |_=>Fq op (a7 K x) (a7 K y) k
  |_,_=>False
 | .unOp .not _ x=>match a7 K x with
  | .c (.one (.d (.lit true)))=>k (.c (.one (.d (.lit false)))) bK
  | .c (.one (.d (.lit false)))=>k (.c (.one (.d (.lit true)))) bK
  | .c (.one (.d (.bool b)))=>k (.c (.one (.d (.bool (!b))))) bK
  |_=>False
 | .extract x i=>match a7 K x with
  | .cn l=>match l[i]? with
   |some v=>k (.c v) bK
   |none=>False
  |_=>False
 | .nilCheck x=>match a7 K x with
  | .c (.one (.ptr c o))=>k (.c (.one (.ptr c o))) bK
  | .c (.one (.el u y o))=>k (.c (.one (.el u y o))) bK
  | .c (.one (.fW c s i o))=>k (.c (.one (.fW c s i o))) bK
  |_=>False
 | .fieldAddr T x f=>match Jz aV T f with
  |some (d,_)=>match a7 K x with
   | .c (.one (.ptr c o))=>k (.c (.one (.ptr c (o+d)))) bK
   | .c (.one (.el u y o))=>k (.c (.one (.el u y (o+d)))) bK
   | .c (.one (.fW c s i o))=>k (.c (.one (.fW c s i (o+d)))) bK
   |_=>False
  |none=>False
 | .load T x=>match aV.find T with
  |some ti=>match a7 K x with
   | .c (.one (.ptr c o))=>match aj B c with
    |some (.cells l)=>match ti.row with
     |true=>match Nat.ble (o+ti.size) l.length with
      |true=>pQ ((l.drop o).take ti.size) fun l=>k (.c (.agg l)) ⟨[c],[],[]⟩
      |false=>False
     |false=>match l[o]? with
      |some s=>zZ s fun s=>k (.c (.one s)) ⟨[c],[],[]⟩
      |none=>False
    |_=>False
   | .c (.one (.el u y o))=>match ti.row with
    |true=>match Nat.ble (o+ti.size) (aR u) with
     |true=>pQ (gI u y o ti.size) fun l=>k (.c (.agg l)) bK
     |false=>False
    |false=>match Nat.blt o (aR u) with
     |true=>zY (fS u y o) fun x=>k (.c (.one (.d x))) bK
     |false=>False
   | .c (.one (.fW c s i o))=>match aj B c with
    |some (.row _ u xs)=>match Nat.beq s (aR u) with
     |true=> ∃y,fd xs i=some y/\match ti.row with
      |true=>match Nat.ble (o+ti.size) (aR u) with
       |true=>pQ (gI u y o ti.size) fun l=>k (.c (.agg l)) ⟨[c],[],[]⟩
       |false=>False
      |false=>match Nat.blt o (aR u) with
       |true=>zY (fS u y o) fun x=>k (.c (.one (.d x))) ⟨[c],[],[]⟩
       |false=>False
     |false=>False
    |_=>False
   |_=>False
  |none=>False
 | .store T x v=>match aV.find T with
  |some ti=>match a7 K x with
   | .c (.one (.ptr c o))=>match aj B c with
    |some (.cells l)=>match wy (a7 K v) with
     |some cs=>match Nat.beq cs.length ti.size,Nat.ble (o+cs.length) l.length with
      |true,true=>pQ (Ck l o cs) fun l=>k .undef ⟨[c],[],[(c,some (.cells l))]⟩
      |_,_=>False
     |none=>False
    |_=>False
   | .c (.one (.fW c s i o))=>match aj B c with
    |some (.row e u xs)=>match Nat.beq (aR u) 1,Nat.beq s 1,Nat.beq o 0,Nat.beq ti.size 1,a7 K v with
     |true,true,true,true,.c (.one pR)=>match oh u [pR] with
      |some (y,[],p)=>(uQ p/\i < xs.length)/\k .undef ⟨[c],[],[(c,some (.row e u (xs.set i y)))]⟩
      |_=>False
     |_,_,_,_,_=>False
    |_=>False
   |_=>False
  |none=>False
 | .alloc T=>match aV.find T,o.dst with
  |some ti,some d=>hk ids K B d=true/\k (.c (.one (.ptr d 0))) ⟨[],[d],[(d,some (.cells ti.zero))]⟩
  |_,_=>False
 | .box T x=>match aV.find T,o.dst,wy (a7 K x) with
  |some ti,some d,some l=>match Nat.beq l.length ti.size with
   |true=>hk ids K B d=true/\k (.c (.one (.ptr d 0))) ⟨[],[d],[(d,some (.cells l))]⟩
   |false=>False
  |_,_,_=>False
 | .build T bI=>match aV.find T with
  |some ti=>match ti.kd,wz K (fun f=>ti.mZ[f]?) bI.toList ti.zero with
   | .st,some l=>pQ l fun l=>k (.c (.agg l)) bK
   |_,_=>False
  |none=>False
 | .buildSlice T 0 bI=>match bI.toList with
  | []=>match elemOf aV T,o.dst with
   |some (e,te),some d=>match te.u with
    |some u=>hk ids K B d=true/\k (.c (.one (.own d))) ⟨[],[d],[(d,some (.row e u []))]⟩
    |none=>False
   |_,_=>False
  |_=>False
 | .buildSlice T n bI=>match elemOf aV T with
  |some (_,te)=>match te.u with
   |some u=>match Nat.ble (n*te.size) 1000,wz K (fun i=>some (i*te.size,te.size)) bI.toList (Fp n te.zero) with
    |true,some l=>match xU u n l with
     |some (xs,none)=>k (.c (.one (.d (.bG u xs)))) bK
     |some (xs,some p)=>p/\k (.c (.one (.d (.bG u xs)))) bK
     |none=>n=1/\ ∃y:aa u,(o4 u y/\l=gI u y 0 (aR u))/\k (.c (.one (.d (.bG u [y])))) bK
    |_,_=>False
   |none=>False
  |none=>False
 | .indexAddr T x i=>match elemOf aV T,a7 K i with
  |some (_,te),.c (.one (.d (.int .i64 n)))=>match a7 K x with
   | .c (.one (.d (.bG u xs)))=>match Nat.beq te.size (aR u) with
    |true=>0<=n/\ ∃y,fd xs n.toNat=some y/\k (.c (.one (.el u y 0))) bK
    |false=>False
   | .c (.one (.own c))=>match aj B c with
    |some (.row _ u xs)=>match Nat.beq te.size (aR u) with
     |true=>(0<=n/\n < xs.length)/\k (.c (.one (.fW c (aR u) n.toNat 0))) ⟨[c],[],[]⟩
     |false=>False
    |_=>False
   |_=>False
  |_,_=>False
 | .index T x i=>match xY aV T,a7 K x,a7 K i with
  |true,.c (.one (.d (.str s))),.c (.one (.d (.int .i64 n)))=>0<=n/\ ∃y,fd s n.toNat=some y/\k (.c (.one (.d (.int .u8 (UInt8.toNat y:Int))))) bK
  |_,_,_=>False
 | .slice T x iv aE none=>match a7 K x with
  | .c (.one (.own c))=>match elemOf aV T,aj B c with
   |some (_,te),some (.row _ u xs)=>match z7 xs.length (iv.map (a7 K)) (aE.map (a7 K)),Nat.beq te.size (aR u) with
    |some (l,h,p),true=>p/\k (.c (.one (.os c (aR u) l (h - l)))) ⟨[c],[],[]⟩
    |_,_=>False
   |_,_=>False
  | .c (.one (.ptr c o))=>match iv,aE,Nat.beq o 0 with
   |none,none,true=>JK aV T c B k
   |_,_,_=>False
  |_=>JC aV T (a7 K x) (iv.map (a7 K)) (aE.map (a7 K)) k
 | .sliceToArrayPointer T x=>JL aV T (a7 K x) k
 | .convert S T x=>JB aV S T (a7 K x) B k
 | .lookup T x i ok=>JF aV T (a7 K x) (a7 K i) ok B k
 | .mapUpdate T x i v=>JH aV T (a7 K x) (a7 K i) (a7 K v) B k
 | .makeMap T none=>JJ aV T o.dst ids K B k
 | .makeFunc (.func f) fs cs=>match fs.toList,xX (cs.toList.map (a7 K)) with
  | [],some l=>k (.c (.one (.c3 f l))) bK
  |_,_=>False
 | .makeSlice T x y=>match elemOf aV T,a7 K x,a7 K y,o.dst with
  |some (e,te),.c (.one (.d (.int .i64 n))),.c (.one (.d (.int .i64 m))),some d=>match rv aV e with
   |true=>(n=m/\0<=n/\n<=4294967296)/\hk ids K B d=true/\k (.c (.one (.own d))) ⟨[],[d],[(d,some (.row e .u8 (List.replicate n.toNat (0:aJ8))))]⟩
   |false=>False
  |_,_,_,_=>False
 | .call c=>match c.callee,c.args.toList with
  | .value (.func f),xs=>xV P f (xs.map (a7 K)) ids K B k
  | .value (.tmp t),xs=>match dR K t with
   | .c (.one (.c3 f l))=>xV P f (xs.map (a7 K)++o8 l) ids K B k
   | .c (.one (.d (.fn x)))=>xV P x.1 (xs.map (a7 K)++uS x.2) ids K B k
   |_=>False
  | .builtin .len,[x]=>match c.argTypes.toList with
   | [T]=>match JA aV T B (a7 K x) with
    |some (n,jE)=>k (.c (.one (.d (.int .i64 (n:Int))))) ⟨jE,[],[]⟩
    |none=>False
   |_=>False
  | .builtin .delete,[x,y]=>match c.argTypes.toList with
   | [T,_]=>JI aV T (a7 K x) (a7 K y) B k
   |_=>False
  | .builtin .min,[x,y]=>match a7 K x,a7 K y with
   | .c (.one (.d (.int .i64 a))),.c (.one (.d (.int .i64 b)))=>k (.c (.one (.d (.int .i64 (min a b))))) bK
   |_,_=>False
  | .builtin .max,[x,y]=>match a7 K x,a7 K y with
   | .c (.one (.d (.int .i64 a))),.c (.one (.d (.int .i64 b)))=>k (.c (.one (.d (.int .i64 (max a b))))) bK
   |_,_=>False
  | .builtin .copy,[x,y]=>match c.argTypes.toList with
   | [T,e8]=>match Zu (a7 K y) with
    |true=>Cm P ids o K B k
    |false=>JM aV T (a7 K x) (a7 K y) B k
   |_=>False
  | .builtin .append,[x,y]=>match c.argTypes.toList with
   | [T,e8]=>match Nat.beq T e8 with
    |true=>JD aV T (a7 K x) (a7 K y) o.dst ids K B k
    |false=>JE aV T e8 (a7 K x) (a7 K y) o.dst ids K B k
   |_=>False
  |_,_=>Cm P ids o K B k
 |_=>Cm P ids o K B k
def Fy (K:aZ) (B:aA) (x:aH8):Bool:=match a7 K x with
 | .c (.one (.mp c))=>match aj B c with
  |some (.aH _)=>true
  |_=>false
 |_=>false
def Fz:aS->Bool
 | .c (.one (.d (.aM _)))=>true
 | .c (.one (.bN _))=>true
 |_=>false
def PX (K:aZ) (B:aA) (x:aH8):Bool:=match a7 K x with
 | .c (.one (.ptr c _))=>match aj B c with
  |some (.val _ _)=>true
  |_=>false
 | .c (.one (.fW c _ _ _))=>match aj B c with
  |some (.val _ _)=>true
  |_=>false
 |_=>false
def Zv (K:aZ) (B:aA) (x:aH8):Bool:=match a7 K x with
 | .c (.one (.fW c _ _ _))=>match aj B c with
  |some (.row _ u _)=> !Nat.beq (aR u) 1
  |_=>false
 |_=>false
def PY:aS->Bool
 | .c (.agg _)=>true
 | .c (.kE _ _)=>true
 |_=>false
def JO (K:aZ) (f:Nat):Bool:=match dR K (1000000+f) with
 | .undef=>true
 |_=>false
def Zw (aV:dt) (o:Oper) (K:aZ) (B:aA):Bool:=match o.op with
 | .lookup _ x _ _=>Fy K B x
 | .mapUpdate _ x _ _=>Fy K B x
 | .indexAddr _ x _=>match a7 K x with
  | .c (.one (.ptr _ _))=>true
  |_=>false
 | .nilCheck x=>Fz (a7 K x)
 | .fieldAddr _ x _=>Fz (a7 K x)
 | .load _ x=>Fz (a7 K x)||PX K B x
 | .store _ x _=>Fz (a7 K x)||PX K B x||Zv K B x
 | .binOp op _ x y _=>match op with
  | .and=>true
  |_=>match y with
   | .const .nilFunc=>true
   | .const .nilIface=>true
   |_=>PY (a7 K x)||(match o.dst with
    |some d=>JO K (2000000+d)
    |none=>false)
 | .index _ x _=>PY (a7 K x)
 | .makeSlice T _ _=>match elemOf aV T with
  |some (e,_)=> !rv aV e
  |none=>false
 | .build T _=>match aV.find T with
  |some ti=>match ti.kd with
   | .arr _ _=>true
   |_=>false
  |none=>false
 | .buildSlice _ _ _=>match o.dst with
  |some d=>JO K (1000000+d)
  |none=>false
 | .call c=>match c.callee,c.args.toList with
  | .builtin .delete,x::_=>Fy K B x
  | .builtin .len,x::_=>Fy K B x
  | .value (.func f),_=>JO K f
  | .value (.tmp t),_=>match dR K t with
   | .c (.one (.bN _))=>true
   |_=>false
  |_,_=>false
 | .makeFunc _ fs _=>match fs.toList with
  | []=>false
  |_=>true
 |_=>false
def FA (P:aH6) (aV:dt) (ids:aH0) (o:Oper) (K:aZ) (B:aA) (k:aS->fE->Prop):Prop:=match Zw aV o K B with
 |true=>Cm P ids o K B k
 |false=>JN P aV ids o K B k
def Cn (all:aI6) (j:Nat):Option Nat:=match all[j]? with
 |some o=>o.dst
 |none=>none
def FB (i:Nat):List Oper->Bool
 | []=>false
 |o::l=>match o.guard with
  |some (j,_)=>match Nat.beq j i with
   |true=>true
   |false=>FB i l
  |none=>FB i l
def uT (all:aI6) (K:aZ) (g:Option (Nat×Bool)):Option Bool:=match g with
 |none=>some true
 |some (j,want)=>match Cn all j with
  |none=>none
  |some s=>match dR K s,want with
   | .c (.one (.d (.lit true))),true=>some true
   | .c (.one (.d (.lit true))),false=>some false
   | .c (.one (.d (.lit false))),true=>some false
   | .c (.one (.d (.lit false))),false=>some true
   | .undef,_=>some false
   |_,_=>none
structure lr where
 i:Nat
 v:aS
 e:fE
noncomputable def FC (P:aH6) (aV:dt) (ids:aH0) (all:aI6) (o:Oper) (l:aI6) (bn:Nat->aZ->aA->List lr->Prop) (i:Nat) (K:aZ) (B:aA) (gJ:List lr):Prop:=
 match uT all K o.guard with
 |none=>False
 |some false=>match o.dst with
  |some d=>bn (i+1) ((d,.undef)::K) B (⟨i,.undef,bK⟩::gJ)
  |none=>bn (i+1) K B (⟨i,.undef,bK⟩::gJ)
 |some true=>FA P aV ids o K B fun v e=>match o.dst with
  |none=>xT e.iV B fun B=>bn (i+1) K B (⟨i,.undef,e⟩::gJ)
  |some d=>match FB i l,v with
   |true,.c (.one (.d (.bool b)))=>
    xT e.iV B fun B=>(b=true->bn (i+1) ((d,.c (.one (.d (.lit true))))::K) B (⟨i,.c (.one (.d (.lit true))),e⟩::gJ))/\
    (b=false->bn (i+1) ((d,.c (.one (.d (.lit false))))::K) B (⟨i,.c (.one (.d (.lit false))),e⟩::gJ))
   |_,v=>xT e.iV B fun B=>bn (i+1) ((d,v)::K) B (⟨i,v,e⟩::gJ)
noncomputable def tP (P:aH6) (aV:dt) (ids:aH0) (all:aI6) (i:Nat) (l:aI6) (K:aZ) (B:aA) (gJ:List lr) (k:aZ->aA->List lr->Prop):Prop:=
 List.rec (motive:=fun _=>Nat->aZ->aA->List lr->Prop) (fun _ K B gJ=>k K B gJ) (fun o l bn i K B gJ=>FC P aV ids all o l bn i K B gJ) l i K B gJ
def PZ {P:aH6} {aV:dt} {ids:aH0} {all:aI6} {i:Nat} {o:Oper} {l:aI6} {K:aZ} {B:aA} {gJ:List lr} {k:aZ->aA->List lr->Prop}:
 tP P aV ids all i (o::l) K B gJ k=FC P aV ids all o l (fun i K B gJ=>tP P aV ids all i l K B gJ k) i K B gJ:=rfl
inductive o9 where
 |hl
 |ex (id:Nat)
 |ret
def o9.to:o9->Exit
 | .hl=>.normal
 | .ex id=>.exit id
 | .ret=>.ret
abbrev pb (r:aI1):Fence:={fn:=fun _=>True,depth:=none,alive:=false,round:=r}
abbrev fv.at (C:fv) (ds:aH0):fv:={C with ds:=ds}
def uU (ids:aH0):Bool:=ids.contains 0
def bw (P:aH6) (N:Nat) (ids:aH0) (c:Code) (K:aZ) (B:aA) (Q:o9->aZ->aA->Prop):Prop:=
 ∀r:Option Nat,(uU ids=false->r=none)-> ∀(C:fv) (iY:Exit->Act->World->Prop),(∀e K' B' ds,(uU ids=true->ds=C.ds)->Q e K' B'-> ∀a w,fe N ids (C.at ds) K' B' a w->iY e.to a w)-> ∀a w,fe N ids C K B a w->c.wpIn (pb r) 0 P iY a w
def FD (all:aI6) (o:Oper):aH0:=(o.op.operands.toList.filterMap fun
 | .tmp t=>some t
 |_=>none)++(match o.guard with
 |some (j,_)=>(Cn all j).toList
 |none=>[])
def qy (o:Oper):aH0:=(o.after.toList.filter fun e=>Region.binds .any e).map (·.on)
def Aa:List Oper->List aH0->List aH0
 | [],acc=>acc
 |o::l,acc=>Aa l (acc++[qy o++(qy o).flatMap fun d=>acc.getD d []])
def FE (e:fE):aH0:=e.iV.map (·.1)
def Ab (a b:aH0):Bool:=a.any fun x=>b.contains x
def Ac (c:Nat):List (Nat×Option ba)->Bool
 | []=>false
 |(d,none)::l=>Nat.beq d c||Ac c l
 |(d,some ch)::l=>Nat.beq d c||ch.has c||Ac c l
def named (n:lr) (c:Nat):Bool:=n.v.has c||Ac c n.e.iV
def apart (all:aI6) (o p:Oper) (n m:lr):Bool:=
 !Ab o.dst.toList (FD all p++p.dst.toList)&& !Ab p.dst.toList (FD all o)&& !Ab (FE n.e) (m.e.jE++FE m.e)&& !Ab (FE m.e) n.e.jE&& !n.e.bb.any (named m)&& !m.e.bb.any (named n)
def uV (all:aI6) (an:List aH0):List (Oper×lr×Nat)->Bool
 | []=>true
 |(o,n,i)::l=>(l.all fun(p,m,j)=>(an.getD j []).contains i&& !m.e.bb.any (named n)||apart all o p n m)&&uV all an l
def wB (K:aZ) (B:aA) (dn:aI6) (gJ:List lr):Bool:=
 let es:=gJ.reverse
 (dn.zipIdx.all fun(o,i)=>(qy o).all fun d=>Nat.blt d i)&&(es.all fun n=>n.e.bb.all fun c=>uP c K&&kZ c B)&&uV dn (Aa dn []) ((dn.zip es).zipIdx.map fun((o,n),i)=>(o,n,i))
abbrev Co:=o9->aZ->aA->Prop
noncomputable def jV (P:aH6) (aV:dt) (N:Nat) (ids:aH0) (stops:aH0) (c:Code):aZ->aA->Co->Prop:=
 Code.rec (motive:=fun _=>aZ->aA->Co->Prop)
  (fun K B Q=>Q .hl K B)
  (fun id dn draw K B Q=>match stops.contains id with
   |true=>bw P N ids (.region id dn draw) K B Q
   |false=>match draw with
    |false=>tP P aV ids dn.toList 0 dn.toList K B [] fun K B _=>Q .hl K B
    |true=>tP P aV ids dn.toList 0 dn.toList K B [] fun K' B' gJ=>wB K B dn.toList gJ=true/\Q .hl K' B')
  (fun _ _ uW Cp K B Q=>uW K B fun e K B=>match e with
   | .hl=>Cp K B Q
   | .ex i=>Q (.ex i) K B
   | .ret=>Q .ret K B)
  (fun c _ _ P0 P1 K B Q=>match a7 K c with
   | .c (.one (.d (.lit true)))=>P0 K B Q
   | .c (.one (.d (.lit false)))=>P1 K B Q
   | .c (.one (.d (.bool b)))=>(b=true->P0 K B Q)/\(b=false->P1 K B Q)
   |_=>False)
  (fun i _ Cp K B Q=>Cp K B fun e K B=>match e with
   | .ex j=>match Nat.beq j i with
    |true=>Q .hl K B
    |false=>Q (.ex j) K B
   | .hl=>Q .hl K B
   | .ret=>Q .ret K B)
  (fun b _ K B Q=>bw P N ids (.loop b) K B Q)
  (fun f bI x b _ _ K B Q=>bw P N ids (.rangeFunc f bI x b) K B Q)
  (fun i K B Q=>Q (.ex i) K B)
  (fun _ Cp K B Q=>Cp K B Q)
  (fun _ K B Q=>Q .hl K B)
  (fun _ _ _ _=>False)
  (fun K B Q=>Q .ret K B)
  (fun _ _ _ _=>False) c
section
variable {P:aH6} {aV:dt} {N:Nat} {ids stops:aH0} {K:aZ} {B:aA} {Q:Co}
def Zx {id:Nat} {dn:Array Oper} {draw:Bool}:jV P aV N ids stops (.region id dn draw) K B Q=(match stops.contains id with
 |true=>bw P N ids (.region id dn draw) K B Q
 |false=>match draw with
  |false=>tP P aV ids dn.toList 0 dn.toList K B [] fun K B _=>Q .hl K B
  |true=>tP P aV ids dn.toList 0 dn.toList K B [] fun K' B' gJ=>wB K B dn.toList gJ=true/\Q .hl K' B'):=rfl
def Zy {a b:Code}:jV P aV N ids stops (.seq a b) K B Q=jV P aV N ids stops a K B fun e K B=>match e with
 | .hl=>jV P aV N ids stops b K B Q
 | .ex i=>Q (.ex i) K B
 | .ret=>Q .ret K B:=rfl
def Zz {c:aH8} {x y:Code}:jV P aV N ids stops (.cond c x y) K B Q=(match a7 K c with
 | .c (.one (.d (.lit true)))=>jV P aV N ids stops x K B Q
 | .c (.one (.d (.lit false)))=>jV P aV N ids stops y K B Q
 | .c (.one (.d (.bool b)))=>(b=true->jV P aV N ids stops x K B Q)/\(b=false->jV P aV N ids stops y K B Q)
 |_=>False):=rfl
def ZA {i:Nat} {b:Code}:jV P aV N ids stops (.block i b) K B Q=jV P aV N ids stops b K B fun e K B=>match e with
 | .ex j=>match Nat.beq j i with
  |true=>Q .hl K B
  |false=>Q (.ex j) K B
 | .hl=>Q .hl K B
 | .ret=>Q .ret K B:=rfl
def ZB {b:Code}:jV P aV N ids stops (.scope b) K B Q=jV P aV N ids stops b K B Q:=rfl
end
end
section
def tQ:Option TypeDesc->PS->Bool
 |some (.int k),.int ea=>mw k ea
 |some .bool,.bool=>true
 |some .string,.str=>true
 |some (.pointer e),.ptr b9=>Nat.beq e b9
 |some (.slice e),.cc b9=>Nat.beq e b9
 |some (.struct _),.st=>true
 |some (.array n e),.arr n' b9=>Nat.beq n n'&&Nat.beq e b9
 |some (.map k e),.mp ea b9=>Nat.beq k ea&&Nat.beq e b9
 |some (.func _ _ _),.other=>true
 |some (.interface _),.other=>true
 |_,_=>false
def JP:Value->bE->Bool
 | .int k n,.d (.int ea n')=>mw k ea&&decide (n=n')
 | .bool b,.d (.lit ej)=>b == ej
 | .string s,.d (.str l)=>decide (s.data.toList=l)
 | .slice none 0 0,.dV=>true
 | .pointer none,.bN (.pointer none)=>true
 | .map none,.bN (.map none)=>true
 | .nilFunc,.bN .nilFunc=>true
 | .nilIface,.bN .nilIface=>true
 |_,_=>false
def tR:List Value->List bE->Bool
 | [],[]=>true
 |v::aF,s::l=>JP v s&&tR aF l
 |_,_=>false
def rx (P:aH6):List Field->List (Nat×Nat)->Bool
 | [],[]=>true
 |f::fs,(d,n)::l=>Nat.beq f.offset d&&(match P.info? f.type with
  |some i=>Nat.beq i.size n
  |none=>false)&& !Nat.beq n 0&&rx P fs l
 |_,_=>false
def P2:Value->Bool->Bool
 | .agg _,false=>false
 |_,_=>true
def JQ (P:aH6) (T:Nat) (ti:cd):Bool:=match P.info? T,P.underlying T with
 |some i,some d=>Nat.beq i.size ti.size&&Nat.beq i.bytes ti.bytes&&(d.isRow == ti.row)&&tQ (some d) ti.kd&&(match i.zero with
  |some aB=>tR aB.cells.toList ti.zero&&P2 aB d.isRow
  |none=>false)&&(match d with
  | .struct fs=>rx P fs.toList ti.mZ
  |_=>true)&&Nat.ble ti.bytes 32768&&(match ti.u with
  |some u=>Nat.beq (aR u) ti.size
  |none=>true)&& !Nat.beq ti.size 0&&Nat.beq ti.zero.length ti.size
 |_,_=>false
def dt.all (p:Nat->cd->Bool):dt->Bool
 | .leaf=>true
 | .node l k x r=>l.all p&&p k x&&r.all p
def dt.JR {p:Nat->cd->Bool}: ∀(t:dt),t.all p=true-> ∀T ti,t.find T=some ti->p T ti=true
 | .leaf,_,T,ti,h=>by simp[dt.find] at h
 | .node l k x r,ha,T,ti,h=>by
  simp only[dt.all,as1] at ha;unfold dt.find at h
  split at h
  .exact dt.JR l ha.1.1 T ti h
  .split at h
   .rename_i e;have:=at1 e;injection h with h
    subst this h;exact ha.1.2
   .exact dt.JR r ha.2 T ti h
def eq (P:aH6) (aV:dt):Prop:= ∀T ti,aV.find T=some ti->JQ P T ti=true
def eq.of {P:aH6} {aV:dt} (h:aV.all (JQ P)=true):eq P aV:=dt.JR aV h
def ol {i j:IntKind} (h:mw i j=true):i=j:=by cases i <;>cases j <;>first |rfl |(simp[mw] at h)
structure mx (P:aH6) (T:Nat) (ti:cd) (i:aI9) (d:aJ1):Prop where
 km:P.info? T=some i
 om:P.underlying T=some d
 size:i.size=ti.size
 bytes:i.bytes=ti.bytes
 row:d.isRow=ti.row
 kd:tQ (some d) ti.kd=true
 zero: ∃aB,i.zero=some aB/\tR aB.cells.toList ti.zero=true
 mZ: ∀fs,d= .struct fs->rx P fs.toList ti.mZ=true
 P3:ti.bytes<=32768
 u: ∀u,ti.u=some u->aR u=ti.size
 pos:ti.size≠0
 JS:ti.zero.length=ti.size
 P4: ∀aB,i.zero=some aB->d.isRow=false->aB.cells= #[aB]
def eq.at_ {P:aH6} {aV:dt} (h:eq P aV) {T:Nat} {ti:cd} (hf:aV.find T=some ti): ∃i d,mx P T ti i d:=by
 have J:=h T ti hf;unfold JQ at J
 split at J
 .rename_i i d aE H;simp only[as1,au9,beq_iff_eq] at J;obtain⟨⟨⟨⟨⟨⟨⟨⟨⟨E,G⟩,ah⟩,aW⟩,bM⟩,fU⟩,iw⟩,iH⟩,sG⟩,Cq⟩:=J;refine⟨i,d,aE,H,at1 E,at1 G,ah,aW,?_,?_,aA1 iw,?_,fun e=>by rw[e] at sG;simp at sG,at1 Cq,?_⟩
  .split at bM
   .rename_i aB aN;exact⟨aB,aN,(as1 _ _▸bM).1⟩
   .cases bM
  .rintro fs rfl;exact fU
  .intro u a6;rw[a6] at iH;exact at1 iH
  .intro aB aN ax;rw[aN] at bM;simp only[as1] at bM;have bM:=bM.2;rw[ax] at bM
   cases aB <;>first |rfl |(simp[P2] at bM)
 .cases J
def mx.cc {P:aH6} {T:Nat} {ti:cd} {i:aI9} {d:aJ1} (h:mx P T ti i d) {e:Nat} (Z:ti.kd= .cc e):P.underlying T=some (.slice e):=by
 have:=h.kd;rw[Z] at this;rw[h.om]
 cases d <;>simp[tQ] at this⊢
 exact this
def mx.str {P:aH6} {T:Nat} {ti:cd} {i:aI9} {d:aJ1} (h:mx P T ti i d) (Z:ti.kd= .str):P.underlying T=some .string:=by
 have:=h.kd;rw[Z] at this;rw[h.om]
 cases d <;>simp[tQ] at this⊢
def mx.int {P:aH6} {T:Nat} {ti:cd} {i:aI9} {d:aJ1} (h:mx P T ti i d) {k:IntKind} (Z:ti.kd= .int k):P.underlying T=some (.int k):=by
 have:=h.kd;rw[Z] at this;rw[h.om]
 cases d <;>simp[tQ] at this⊢
 exact ol this
def mx.ptr {P:aH6} {T:Nat} {ti:cd} {i:aI9} {d:aJ1} (h:mx P T ti i d) {e:Nat} (Z:ti.kd= .ptr e):P.underlying T=some (.pointer e):=by
 have:=h.kd;rw[Z] at this;rw[h.om]
 cases d <;>simp[tQ] at this⊢
 exact this
def mx.st {P:aH6} {T:Nat} {ti:cd} {i:aI9} {d:aJ1} (h:mx P T ti i d) (Z:ti.kd= .st): ∃fs,P.underlying T=some (.struct fs)/\d= .struct fs:=by
 have:=h.kd;rw[Z] at this;rw[h.om]
 cases d <;>simp[tQ] at this⊢
def P5 {P:aH6}: ∀(fs:List Field) (l:aJ7),rx P fs l=true-> ∀(f d n:Nat),l[f]? =some (d,n)-> ∃kn i,fs[f]? =some kn/\kn.offset=d/\P.info? kn.type=some i/\i.size=n/\n≠0
 | [],[],_,f,d,n,h=>by simp at h
 |g::fs,(a,b)::l,ag,0,d,n,h=>by
  simp only[rx,as1,au9] at ag;simp only[at9,as9,ay8] at h;obtain⟨rfl,rfl⟩:=h;obtain⟨⟨⟨E,G⟩,ah⟩,_⟩:=ag
  split at G
  .rename_i i aE;exact⟨g,i,rfl,at1 E,aE,at1 G,fun e=>by subst e;simp at ah⟩
  .cases G
 |g::fs,(a,b)::l,ag,f+1,d,n,h=>by
  simp only[rx,as1] at ag;simpa using P5 fs l ag.2 f d n aE0
 | [],_::_,ag,_,_,_,_=>by simp[rx] at ag
 |_::_,[],ag,_,_,_,_=>by simp[rx] at ag
section
variable {P:aH6} {aV:dt} {N:Nat} {ids:aH0} {o:Oper} {K:aZ} {B:aA}
def bD.val {v:aS} {jE:aH0} (h: ∀(K':aZ) (B':aA),(∀x,x∈o.op.operands->a7 K' x=a7 K x)->(∀c,c∈jE->aj B' c=aj B c)->
  ∀(C:fv) (ρ:Nat->bq) (F:Nat->Nat->Prop) (a:Act) (w:aH5),Mem ids C B' ρ F w->eF K' ρ (b5 C B' F w) a w-> ∃x,(execOp a.eval o).run P w= .ok (.value x) w/\cA ρ (b5 C B' F w) w v x):
  bD P N ids o K B v ⟨jE,[],[]⟩:=by
 rintro K' B' E G - C a w ⟨hn,H,ρ,F,al,av⟩ bv ga Q cE;obtain⟨x,hx,az⟩:=h K' B' E G C ρ F a w al av;unfold Oper.wp;rw[hx,Oper.upon_value];exact cE _ _ ⟨kW.trans hn,kX.trans H,ρ,F,al,av.kY (fun e U=>by rw[hn];exact bv e U) az⟩
def bD.new {v:aS} {jE:aH0} (h: ∀(K':aZ) (B':aA),(∀x,x∈o.op.operands->a7 K' x=a7 K x)->(∀c,c∈jE->aj B' c=aj B c)->
  ∀(C:fv) (ρ:Nat->bq) (F:Nat->Nat->Prop) (a:Act) (w:aH5),Mem ids C B' ρ F w->eF K' ρ (b5 C B' F w) a w-> ∃x w',(execOp a.eval o).run P w= .ok (.value x) w'/\Below w.heap.size w w'/\
   (∀I:Nat->Prop,cp (b5 C B' F w) w I w'->(∀b,w.heap.size<=b->b < w'.heap.size->I b)->cA ρ I w' v x)):
  bD P N ids o K B v ⟨jE,[],[]⟩:=by
 rintro K' B' E G - C a w ⟨hn,H,ρ,F,al,av⟩ bv ga Q cE;obtain⟨x,w',hx,O,az⟩:=h K' B' E G C ρ F a w al av;obtain⟨bC,U⟩:=al.below O;unfold Oper.wp;rw[hx,Oper.upon_value];refine cE _ _ ⟨kW.trans hn,kX.trans H,ρ,F,bC,(av.mono U fun _ _ _=>rfl).kY (fun e U=>by rw[hn];exact bv e U) (az _ U fun b E G=>⟨G,?_,fun c ch J bj=>?_⟩)⟩
 .exact .inr (.inr (al.fresh E))
 .have:=(al.own c ch J b bj).1;omega
section
variable {K':aZ} {ρ:Nat->bq} {I:Nat->Prop} {a:Act} {w:aH5} {x:aH8}
def eF.ev (av:eF K' ρ I a w) {s:aS} (h:a7 K' x=s):cA ρ I w s (a.eval x):=h▸av.get x
def eF.int (av:eF K' ρ I a w) {k:IntKind} {n:Int} (h:a7 K' x= .c (.one (.d (.int k n)))):a.eval x= .int k n:=av.ev h
def eF.lit (av:eF K' ρ I a w) {b:Bool} (h:a7 K' x= .c (.one (.d (.lit b)))):a.eval x= .bool b:=av.ev h
def eF.bool (av:eF K' ρ I a w) {b:Bool} (h:a7 K' x= .c (.one (.d (.bool b)))):a.eval x= .bool b:=av.ev h
def eF.str (av:eF K' ρ I a w) {s:aG9} (h:a7 K' x= .c (.one (.d (.str s)))):a.eval x= .string ⟨s.toArray⟩:=av.ev h
def eF.ptr (av:eF K' ρ I a w) {c o:Nat} (h:a7 K' x= .c (.one (.ptr c o))):a.eval x= .pointer (some ⟨(ρ c).bm,o,none⟩):=av.ev h
def eF.fW (av:eF K' ρ I a w) {c s i o:Nat} (h:a7 K' x= .c (.one (.fW c s i o))):a.eval x= .pointer (some ⟨(ρ c).bm,i*s+o,none⟩):=av.ev h
def eF.os (av:eF K' ρ I a w) {c s o n:Nat} (h:a7 K' x= .c (.one (.os c s o n))):a.eval x= .slice (if(ρ c).cap=o then(ρ c).A else(ρ c).A.map (·.add (o*s))) n ((ρ c).cap - o):=av.ev h
def eF.bN (av:eF K' ρ I a w) {v:aI3} (h:a7 K' x= .c (.one (.bN v))):a.eval x=v:=av.ev h
def eF.own (av:eF K' ρ I a w) {c:Nat} (h:a7 K' x= .c (.one (.own c))):a.eval x=(ρ c).eS:=av.ev h
def eF.dV (av:eF K' ρ I a w) (h:a7 K' x= .c (.one .dV)):a.eval x= .slice none 0 0:=av.ev h
def eF.bG (av:eF K' ρ I a w) {u:bB} {xs:List (aa u)} (h:a7 K' x= .c (.one (.d (.bG u xs)))):cw I w (.cc u) xs (fun _=>some (a.eval x)):=av.ev h
end
def x2 {k:IntKind} {n:Int} (h:uR k n):k.wrap n=n:=by cases k <;>simp only[uR] at h <;>simp[IntKind.wrap,IntKind.bits,IntKind.signed] <;>omega
def Ad {x y:aH8} {op:BinOp} {T fF:aI0}:x∈(Op.binOp op T x y fF).operands/\y∈(Op.binOp op T x y fF).operands:=by simp[Op.operands]
def toList_mk (l:aG9):(⟨l.toArray⟩:aJ2).toList=l:=by rw[ByteArray.toList_eq]
def x3 (l:aG9):(⟨l.toArray⟩:aJ2).size=l.length:=by simp[ByteArray.size]
def JT {op:BinOp} {T fF:aI0} {x y:aH8} {a:Act} {w:aH5} {k:IntKind} {n m r:Int} (ag:o.op= .binOp op T x y fF) (E:a.eval x= .int k n) (G:a.eval y= .int k m)
  (h:(op= .add/\r=n+m)\/(op= .sub/\r=n - m)\/(op= .mul/\r=n*m)) (ax:uR k r):(execOp a.eval o).run P w= .ok (.value (.int k r)) w:=by
 simp only[execOp,ag,E,G];rcases h with⟨rfl,rfl⟩ |⟨rfl,rfl⟩ |⟨rfl,rfl⟩ <;>simp[eqGuard,go_sem,x2 ax,Op.intArith]
def P6 {op:BinOp} {T fF:aI0} {x y:aH8} {a:Act} {w:aH5} {k:IntKind} {n m r:Int} (ag:o.op= .binOp op T x y fF) (E:a.eval x= .int k n) (G:a.eval y= .int k m)
  (hn:0<=n) (ay:0 < m) (h:(op= .quo/\r=n/m)\/(op= .rem/\r=n % m)) (ax:uR k r):(execOp a.eval o).run P w= .ok (.value (.int k r)) w:=by
 have Cr:m≠0:=aD9
 simp only[execOp,ag,E,G];rcases h with⟨rfl,rfl⟩ |⟨rfl,rfl⟩
 .have e:n.tdiv m=n/m:=Int.tdiv_eq_ediv_of_nonneg hn;simp[eqGuard,go_sem,Op.intDiv,Cr,e,x2 ax]
 .have e:n.tmod m=n % m:=Int.tmod_eq_emod_of_nonneg hn;simp[eqGuard,go_sem,Op.intDiv,Cr,e]
def Ae {op:BinOp} {T fF:aI0} {x y:aH8} {a:Act} {w:aH5} {k:IntKind} {n m:Int} {b:Bool} (ag:o.op= .binOp op T x y fF) (E:a.eval x= .int k n) (G:a.eval y= .int k m)
  (h:(op= .eql/\b=decide (n=m))\/(op= .neq/\b= !decide (n=m))\/(op= .lss/\b=decide (n < m))\/(op= .leq/\b=decide (n<=m))\/(op= .gtr/\b=decide (m < n))\/(op= .geq/\b=decide (m<=n))):
  (execOp a.eval o).run P w= .ok (.value (.bool b)) w:=by
 simp only[execOp,ag,E,G];rcases h with⟨rfl,rfl⟩ |⟨rfl,rfl⟩ |⟨rfl,rfl⟩ |⟨rfl,rfl⟩ |⟨rfl,rfl⟩ |⟨rfl,rfl⟩
 all_goals
  simp[eqGuard,go_sem,Op.intCmp]
 all_goals
  by_cases e:n=m <;>simp[e]
def JU {op:BinOp} {T fF:aI0} {x y:aH8} {a:Act} {w:aH5} {k cS:IntKind} {n m r:Int} (ag:o.op= .binOp op T x y fF) (E:a.eval x= .int k n) (G:a.eval y= .int cS m)
  (hn:0<=n) (ay:0<=m) (O:m.toNat<=k.bits) (h:(op= .shl/\r=n*(2 ^m.toNat:Nat))\/(op= .shr/\r=n/(2 ^m.toNat:Nat))) (ax:op= .shl->uR k r):(execOp a.eval o).run P w= .ok (.value (.int k r)) w:=by
 have Cr: ¬m < 0:=aD9
 have bK:min m.toNat k.bits=m.toNat:=aD9
 simp only[execOp,ag,E,G];rcases h with⟨rfl,rfl⟩ |⟨rfl,rfl⟩
 .have e:=x2 (ax rfl);simp only[Int.natCast_pow,Int.cast_ofNat_Int] at e⊢
  have au:Op.shift .shl k n cS m=pure (.int k (n*2 ^m.toNat)):=by
   unfold Op.shift;rw[mu Cr,bK];simp only;rw[e]
  simp only[eqGuard,binOp,au];simp[go_sem]
 .have e:n.fdiv (2 ^m.toNat)=n/(2 ^m.toNat):=by rw[Int.fdiv_eq_ediv_of_nonneg];exact Int.pow_nonneg aD2
  simp only[Int.natCast_pow,Int.cast_ofNat_Int]
  have au:Op.shift .shr k n cS m=pure (.int k (n/2 ^m.toNat)):=by
   unfold Op.shift;rw[mu Cr,bK];simp only;rw[e]
  simp only[eqGuard,binOp,au];simp[go_sem]
def Af {op:BinOp} {T fF:aI0} {x y:aH8} {a:Act} {w:aH5} {s t:aG9} {b:Bool} (ag:o.op= .binOp op T x y fF) (E:a.eval x= .string ⟨s.toArray⟩) (G:a.eval y= .string ⟨t.toArray⟩)
  (h:(op= .eql/\b=decide (s=t))\/(op= .neq/\b= !decide (s=t))\/(op= .lss/\b=Op.bytesLess s t)\/(op= .leq/\b=(Op.bytesLess s t||decide (s=t)))\/(op= .gtr/\b= !(Op.bytesLess s t||decide (s=t)))\/(op= .geq/\b= !Op.bytesLess s t)):
  (execOp a.eval o).run P w= .ok (.value (.bool b)) w:=by
 have e:(s == t)=decide (s=t):=by by_cases e:s=t <;>simp[e]
 simp only[execOp,ag,E,G];rcases h with⟨rfl,rfl⟩ |⟨rfl,rfl⟩ |⟨rfl,rfl⟩ |⟨rfl,rfl⟩ |⟨rfl,rfl⟩ |⟨rfl,rfl⟩ <;>simp[eqGuard,go_sem,Op.stringOp,toList_mk,e]
def ZC (s t:aG9):(⟨s.toArray⟩:aJ2)++⟨t.toArray⟩=⟨(s++t).toArray⟩:=by
 have:((⟨s.toArray⟩:aJ2)++⟨t.toArray⟩).data=(s++t).toArray:=by
  simp[ByteArray.data_append]
 cases h:(⟨s.toArray⟩:aJ2)++⟨t.toArray⟩
 rw[h] at this;simp only at this;rw[this]
def ZD {T fF:aI0} {x y:aH8} {a:Act} {w:aH5} {s t:aG9} (ag:o.op= .binOp .add T x y fF) (E:a.eval x= .string ⟨s.toArray⟩) (G:a.eval y= .string ⟨t.toArray⟩)
  (h:s.length+t.length<=4294967296):(execOp a.eval o).run P w= .ok (.value (.string ⟨(s++t).toArray⟩)) w:=by
 simp only[execOp,ag,E,G]
 have hn: ¬(((s.length+t.length:Nat):Int) >IntKind.i64.max):=by
  have:IntKind.i64.max=9223372036854775807:=by decide
  omega
 simp only[eqGuard,binOp,Op.stringOp,x3,ZC];rw[mu hn];simp[go_sem]
end
end
section
section
variable {P:aH6} {aV:dt} {N:Nat} {ids:aH0} {o:Oper} {K:aZ} {B:aA} {k:aS->fE->Prop}
def bD.one {x:aH8} {Cs v:aS} (hx:a7 K x=Cs) (ay:x∈o.op.operands)
  (h: ∀(K':aZ) (ρ:Nat->bq) (I:Nat->Prop) (a:Act) (w:World),eF K' ρ I a w->a7 K' x=Cs-> ∃r,(execOp a.eval o).run P w= .ok (.value r) w/\cA ρ I w v r):bD P N ids o K B v bK:=
 bD.val fun K' B' E G C ρ F a w al av=>h K' ρ _ a w av ((E x ay).trans hx)
def bD.two {x y:aH8} {Cs P7 v:aS} (hx:a7 K x=Cs) (aC:a7 K y=P7) (ay:x∈o.op.operands) (hn:y∈o.op.operands)
  (h: ∀(K':aZ) (ρ:Nat->bq) (I:Nat->Prop) (a:Act) (w:World),eF K' ρ I a w->a7 K' x=Cs->a7 K' y=P7-> ∃r,(execOp a.eval o).run P w= .ok (.value r) w/\cA ρ I w v r):bD P N ids o K B v bK:=
 bD.val fun K' B' E G C ρ F a w al av=>h K' ρ _ a w av ((E x ay).trans hx) ((E y hn).trans aC)
def ZE {a b:Int} (E:0<=a) (G:a<=9223372036854775807) (ah:0<=b) (aW:b<=9223372036854775807):
  IntKind.i64.wrap (((BitVec.ofInt 64 a ||| BitVec.ofInt 64 b).toNat:Nat):Int)=((a.toNat ||| b.toNat:Nat):Int):=by
 have af:(BitVec.ofInt 64 a).toNat=a.toNat:=aG0
 have ao:(BitVec.ofInt 64 b).toNat=b.toNat:=aG0
 rw[BitVec.toNat_or,af,ao];have h:a.toNat ||| b.toNat < 2 ^63:=Nat.or_lt_two_pow aD1 aD1;exact x2 (by simp only[uR];omega)
def P8 {op:BinOp} {T fF:aI0} {x y:aH8} (ag:o.op= .binOp op T x y fF)
  (ae:(∃e,P.underlying T=some (.pointer e))\/ ∀c d,a7 K x≠ .c (.one (.ptr c d))/\a7 K x≠ .c (.one (.bN (.pointer none))))
  (h:Fq op (a7 K x) (a7 K y) k): ∃v,k v bK/\bD P N ids o K B v bK:=by
 have m1:x∈o.op.operands:=by rw[ag];exact Ad.1
 have m2:y∈o.op.operands:=by rw[ag];exact Ad.2
 unfold Fq at h
 split at h
 .rename_i i a j b hx aC
  have two: ∀(v:aS) (az:i=j-> ∀(K':aZ) (ρ:Nat->bq) (I:Nat->Prop) (fx:Act) (w:World),fx.eval x= .int i a->fx.eval y= .int i b-> ∃r,(execOp fx.eval o).run P w= .ok (.value r) w/\cA ρ I w v r),mw i j=true->bD P N ids o K B v bK:=fun v az g3=>
   bD.two hx aC m1 m2 fun K' ρ I fx w av af ao=>az (ol g3) K' ρ I fx w (av.int af) (by rw[ol g3];exact av.int ao)
  have P9: ∀(v:aS) (az: ∀(K':aZ) (ρ:Nat->bq) (I:Nat->Prop) (fx:Act) (w:World),fx.eval x= .int i a->fx.eval y= .int j b-> ∃r,(execOp fx.eval o).run P w= .ok (.value r) w/\cA ρ I w v r),bD P N ids o K B v bK:=fun v az=>
   bD.two hx aC m1 m2 fun K' ρ I fx w av af ao=>az K' ρ I fx w (av.int af) (av.int ao)
  split at h
  .rename_i g3;have h:=xW h;exact⟨_,h.2,two _ (fun _ K' ρ I fx w E G=>⟨_,JT ag E G (.inl ⟨rfl,rfl⟩) h.1,rfl⟩) g3⟩
  .rename_i g3;have h:=xW h;exact⟨_,h.2,two _ (fun _ K' ρ I fx w E G=>⟨_,JT ag E G (.inr (.inl ⟨rfl,rfl⟩)) h.1,rfl⟩) g3⟩
  .rename_i g3;have h:=xW h;exact⟨_,h.2,two _ (fun _ K' ρ I fx w E G=>⟨_,JT ag E G (.inr (.inr ⟨rfl,rfl⟩)) h.1,rfl⟩) g3⟩
  .rename_i g3;have h':=xW h.2;exact⟨_,h'.2,two _ (fun _ K' ρ I fx w E G=>⟨_,P6 ag E G h.1.1 h.1.2 (.inl ⟨rfl,rfl⟩) h'.1,rfl⟩) g3⟩
  .rename_i g3;have h':=xW h.2;exact⟨_,h'.2,two _ (fun _ K' ρ I fx w E G=>⟨_,P6 ag E G h.1.1 h.1.2 (.inr ⟨rfl,rfl⟩) h'.1,rfl⟩) g3⟩
  .split at h
   .rename_i aE;have:=ol aE;subst this;have h':=xW h.2;exact⟨_,h'.2,P9 _ fun K' ρ I fx w E G=>⟨_,JU ag E G h.1.1 h.1.2.1 (by simp[IntKind.bits];have:=h.1.2.2;omega) (.inl ⟨rfl,rfl⟩) (fun _=>h'.1),rfl⟩⟩
   .exact h.elim
  .split at h
   .rename_i aE;have:=ol aE;subst this;exact⟨_,h.2,P9 _ fun K' ρ I fx w E G=>⟨_,JU ag E G h.1.1 h.1.2.1 (by simp[IntKind.bits];have:=h.1.2.2;omega) (.inr ⟨rfl,rfl⟩) (fun e=>by cases e),rfl⟩⟩
   .exact h.elim
  .rename_i g3
   split at h
   .rename_i aE;have:=ol aE;subst this;refine⟨_,h.2,two _ (fun V K' ρ I fx w E G=>⟨_,?_,rfl⟩) g3⟩;have e:=ZE h.1.1 h.1.2.1 h.1.2.2.1 h.1.2.2.2
    have au:Op.intBits .or .i64 a b=pure (.int .i64 ((a.toNat ||| b.toNat:Nat):Int)):=by
     exact as5 (fun aB:Int=>(pure (Value.int .i64 aB):Sem Value)) e
    simp only[execOp,ag,E,G,eqGuard,binOp,au];simp[go_sem]
   .exact h.elim
  .rename_i g3;exact⟨_,h,two _ (fun _ K' ρ I fx w E G=>⟨_,Ae ag E G (.inl ⟨rfl,rfl⟩),rfl⟩) g3⟩
  .rename_i g3;exact⟨_,h,two _ (fun _ K' ρ I fx w E G=>⟨_,Ae ag E G (.inr (.inl ⟨rfl,rfl⟩)),rfl⟩) g3⟩
  .rename_i g3;exact⟨_,h,two _ (fun _ K' ρ I fx w E G=>⟨_,Ae ag E G (.inr (.inr (.inl ⟨rfl,rfl⟩))),rfl⟩) g3⟩
  .rename_i g3;exact⟨_,h,two _ (fun _ K' ρ I fx w E G=>⟨_,Ae ag E G (.inr (.inr (.inr (.inl ⟨rfl,rfl⟩)))),rfl⟩) g3⟩
  .rename_i g3;exact⟨_,h,two _ (fun _ K' ρ I fx w E G=>⟨_,Ae ag E G (.inr (.inr (.inr (.inr (.inl ⟨rfl,rfl⟩))))),rfl⟩) g3⟩
  .rename_i g3;exact⟨_,h,two _ (fun _ K' ρ I fx w E G=>⟨_,Ae ag E G (.inr (.inr (.inr (.inr (.inr ⟨rfl,rfl⟩))))),rfl⟩) g3⟩
  .exact h.elim
 .rename_i s t hx aC
  have two: ∀(v:aS) (az: ∀(K':aZ) (ρ:Nat->bq) (I:Nat->Prop) (fx:Act) (w:World),fx.eval x= .string ⟨s.toArray⟩->fx.eval y= .string ⟨t.toArray⟩-> ∃r,(execOp fx.eval o).run P w= .ok (.value r) w/\cA ρ I w v r),bD P N ids o K B v bK:=fun v az=>
   bD.two hx aC m1 m2 fun K' ρ I fx w av af ao=>az K' ρ I fx w (av.str af) (av.str ao)
  split at h
  .exact⟨_,h.2,two _ fun K' ρ I fx w E G=>⟨_,ZD ag E G h.1,rfl⟩⟩
  .exact⟨_,h,two _ fun K' ρ I fx w E G=>⟨_,Af ag E G (.inl ⟨rfl,rfl⟩),rfl⟩⟩
  .exact⟨_,h,two _ fun K' ρ I fx w E G=>⟨_,Af ag E G (.inr (.inl ⟨rfl,rfl⟩)),rfl⟩⟩
  .exact⟨_,h,two _ fun K' ρ I fx w E G=>⟨_,Af ag E G (.inr (.inr (.inl ⟨rfl,rfl⟩))),rfl⟩⟩
  .exact⟨_,h,two _ fun K' ρ I fx w E G=>⟨_,Af ag E G (.inr (.inr (.inr (.inl ⟨rfl,rfl⟩)))),rfl⟩⟩
  .exact⟨_,h,two _ fun K' ρ I fx w E G=>⟨_,Af ag E G (.inr (.inr (.inr (.inr (.inl ⟨rfl,rfl⟩))))),rfl⟩⟩
  .exact⟨_,h,two _ fun K' ρ I fx w E G=>⟨_,Af ag E G (.inr (.inr (.inr (.inr (.inr ⟨rfl,rfl⟩))))),rfl⟩⟩
  .exact h.elim
 .rename_i c d hx aC;obtain⟨e,a6⟩:=ae.resolve_right fun h=>(h c d).1 hx
  have q: ∀(p:Addr) (w:aH5),(Op.equalIn (9999+1) T (.pointer (some p)) (.pointer none)).run P w= .ok false w:=fun p w=>by
   unfold Op.equalIn;simp[run_underlying a6]
  split at h
  .refine⟨_,h,bD.two hx aC m1 m2 fun K' ρ I fx w av af ao=>⟨_,?_,rfl⟩⟩;simp only[execOp,ag,av.ptr af,av.bN ao];simp[eqGuard,binOp,Op.equal,Op.maxDepth,q]
  .refine⟨_,h,bD.two hx aC m1 m2 fun K' ρ I fx w av af ao=>⟨_,?_,rfl⟩⟩;simp only[execOp,ag,av.ptr af,av.bN ao];simp[eqGuard,binOp,Op.equal,Op.maxDepth,q]
  .exact h.elim
 .rename_i hx aC;obtain⟨e,a6⟩:=ae.resolve_right fun h=>(h 0 0).2 hx
  have q: ∀(w:aH5),(Op.equalIn (9999+1) T (.pointer none) (.pointer none)).run P w= .ok true w:=fun w=>by
   unfold Op.equalIn;simp[run_underlying a6]
  split at h
  .refine⟨_,h,bD.two hx aC m1 m2 fun K' ρ I fx w av af ao=>⟨_,?_,rfl⟩⟩;simp only[execOp,ag,av.bN af,av.bN ao];simp[eqGuard,binOp,Op.equal,Op.maxDepth,q]
  .refine⟨_,h,bD.two hx aC m1 m2 fun K' ρ I fx w av af ao=>⟨_,?_,rfl⟩⟩;simp only[execOp,ag,av.bN af,av.bN ao];simp[eqGuard,binOp,Op.equal,Op.maxDepth,q]
  .exact h.elim
 .exact h.elim
def P' {op:BinOp} {T fF:aI0} {x y:aH8} (ag:o.op= .binOp op T x y fF) (bl: ∀T,z6 aV T=true-> ∃e i,P.underlying T=some (.pointer e)/\P.info? e=some i/\i.size≠0)
  (ae: ∃e,P.underlying T=some (.pointer e)) (h:Fs aV T op (a7 K x) (a7 K y) k): ∃v,k v bK/\bD P N ids o K B v bK:=by
 have m1:x∈o.op.operands:=by rw[ag];exact Ad.1
 have m2:y∈o.op.operands:=by rw[ag];exact Ad.2
 unfold Fs at h
 split at h
 .rename_i p hx;obtain⟨e,a6⟩:=ae
  have key: ∀(b:Bool) (r:aI1),(∀(ρ:Nat->bq) (I:Nat->Prop) (w:aH5) (v:aI3),cA ρ I w (a7 K y) v->v= .pointer (oe r))->(b=true->p=r/\(r=none\/z6 aV T=true))->(b=false->(p=none/\r≠none)\/(p≠none/\r=none))->(op= .eql->bD P N ids o K B (.c (.one (.d (.lit b)))) bK)/\(op= .neq->bD P N ids o K B (.c (.one (.d (.lit !b)))) bK):=by
   intro b r aC E G
   have q: ∀(w:aH5),(Op.equalIn (9999+1) T (.pointer (oe p)) (.pointer (oe r))).run P w= .ok b w:=by
    intro w;unfold Op.equalIn
    cases b with
    |true=>
     obtain⟨rfl,ah⟩:=E rfl
     cases p with
     |none=>simp[run_underlying a6,oe]
     |some p=>
      rcases ah with ah |ah
      .cases ah
      .obtain⟨b9,i,b',cS,en⟩:=bl T ah;rw[a6] at b';injection b' with b'
       injection b' with b'
       subst b';simp[run_underlying a6,oe,sizeOf,typeInfo,cS,en,sameAddr]
    |false=>
     rcases G rfl with⟨rfl,ah⟩ |⟨ah,rfl⟩
     .cases r with
      |none=>exact as3 rfl ah
      |some r=>simp[run_underlying a6,oe]
     .cases p with
      |none=>exact as3 rfl ah
      |some p=>simp[run_underlying a6,oe]
   refine⟨fun af=>?_,fun af=>?_⟩
   .subst af;refine bD.val fun K' B' g1 g2 C ρ F a w al av=>⟨.bool b,?_,rfl⟩
    have af:a.eval x= .pointer (oe p):=av.ev ((g1 x m1).trans hx);have ao:a.eval y= .pointer (oe r):=aC _ _ _ _ (av.ev (g1 y m2));simp only[execOp,ag,af,ao];simp[eqGuard,binOp,Op.equal,Op.maxDepth,q]
   .subst af;refine bD.val fun K' B' g1 g2 C ρ F a w al av=>⟨.bool !b,?_,rfl⟩
    have af:a.eval x= .pointer (oe p):=av.ev ((g1 x m1).trans hx);have ao:a.eval y= .pointer (oe r):=aC _ _ _ _ (av.ev (g1 y m2));simp only[execOp,ag,af,ao];simp[eqGuard,binOp,Op.equal,Op.maxDepth,q]
  have two: ∀(f:Bool->Prop),Fr aV T p (a7 K y) f-> ∃b,f b/\(op= .eql->bD P N ids o K B (.c (.one (.d (.lit b)))) bK)/\(op= .neq->bD P N ids o K B (.c (.one (.d (.lit !b)))) bK):=by
   intro f h;unfold Fr at h
   split at h
   .rename_i aC;have eo: ∀(ρ:Nat->bq) (I:Nat->Prop) (w:aH5) (v:aI3),cA ρ I w (a7 K y) v->v= .pointer (oe none):=fun ρ I w v az=>by rw[aC] at az;exact az
    cases ae:p with
    |some b=>exact⟨_,h.1 b ae,by
      have:=key false none eo (fun e=>by cases e) (fun _=>.inr ⟨by simp[ae],rfl⟩);exact this⟩
    |none=>exact⟨_,h.2 ae,key true none eo (fun _=>⟨ae,.inl rfl⟩) (fun e=>by cases e)⟩
   .rename_i r aC;have eo: ∀(ρ:Nat->bq) (I:Nat->Prop) (w:aH5) (v:aI3),cA ρ I w (a7 K y) v->v= .pointer (oe r):=fun ρ I w v az=>by rw[aC] at az;exact az
    split at h
    .have a2:z6 aV T=true:=by assumption
     obtain⟨rfl,h⟩:=h;exact⟨_,h,key _ _ eo (fun _=>⟨rfl,.inr a2⟩) (fun e=>by cases e)⟩
    .exact h.elim
   .exact h.elim
  split at h
  .obtain⟨b,E,G,_⟩:=two _ h;exact⟨_,E,G rfl⟩
  .obtain⟨b,E,_,G⟩:=two _ h;exact⟨_,E,G rfl⟩
  .exact h.elim
 .exact P8 ag (.inl ae) h
def Qa {op:BinOp} {T fF:aI0} {x y:aH8} (ag:o.op= .binOp op T x y fF) (a6:P.underlying T=some .bool) {a:Bool} (hx:a7 K x= .c (.one (.d (.bool a)))\/a7 K x= .c (.one (.d (.lit a))))
  (h:Fu op a (a7 K y) k): ∃v,k v bK/\bD P N ids o K B v bK:=by
 have m1:x∈o.op.operands:=by rw[ag];exact Ad.1
 have m2:y∈o.op.operands:=by rw[ag];exact Ad.2
 have q: ∀(a b:Bool) (w:aH5),(Op.equalIn (9999+1) T (.bool a) (.bool b)).run P w= .ok (a == b) w:=fun a b w=>by
  unfold Op.equalIn;simp[run_underlying a6]
 have key: ∀(b:Bool) (r:Bool),(a7 K y= .c (.one (.d (.bool b)))\/a7 K y= .c (.one (.d (.lit b))))->(op= .eql/\r=(a == b))\/(op= .neq/\r= !(a == b))->bD P N ids o K B (.c (.one (.d (.bool r)))) bK:=fun b r aC ax=>
  bD.val fun K' B' E G C ρ F fx w al av=>by
   have ex:fx.eval x= .bool a:=by
    have:=av.get x;rw[E x m1] at this;rcases hx with hx |hx <;>(rw[hx] at this;exact this)
   have JV:fx.eval y= .bool b:=by
    have:=av.get y;rw[E y m2] at this;rcases aC with aC |aC <;>(rw[aC] at this;exact this)
   refine⟨.bool r,?_,rfl⟩;rcases ax with⟨rfl,rfl⟩ |⟨rfl,rfl⟩ <;>(simp only[execOp,ag,ex,JV];simp[eqGuard,binOp,Op.equal,Op.maxDepth,q])
 unfold Fu at h
 split at h
 .exact⟨_,h,key _ _ (.inl ‹_›) (.inl ⟨rfl,rfl⟩)⟩
 .exact⟨_,h,key _ _ (.inr ‹_›) (.inl ⟨rfl,rfl⟩)⟩
 .exact⟨_,h,key _ _ (.inl ‹_›) (.inr ⟨rfl,rfl⟩)⟩
 .exact⟨_,h,key _ _ (.inr ‹_›) (.inr ⟨rfl,rfl⟩)⟩
 .exact h.elim
end
end
section
section
variable {ρ:Nat->bq} {I:Nat->Prop} {w:aH5}
def cg.length: ∀(l:List bE) (aF:aH4),cg ρ I w l aF->aF.length=l.length
 | [],_,h=>by rw[show _=[] from h];rfl
 |s::l,_,⟨v,r,e,E,G⟩=>by rw[e,aw4,aw4,cg.length l r G]
def cg.get: ∀(l:List bE) (aF:aH4),cg ρ I w l aF-> ∀(i:Nat) (s:bE),l[i]? =some s-> ∃v,aF[i]? =some v/\d' ρ I w s v
 | [],_,h,i,s,au=>by simp at au
 |t::l,_,⟨v,r,e,E,G⟩,0,s,au=>by
  simp only[at9,as9] at au;subst au e;exact⟨v,rfl,E⟩
 |t::l,_,⟨v,r,e,E,G⟩,i+1,s,au=>by
  subst e;simpa using cg.get l r G i s (by simpa using au)
def cg.uX: ∀(l m:List bE) (aF us:aH4),cg ρ I w l aF->cg ρ I w m us->cg ρ I w (l++m) (aF++us)
 | [],m,_,us,h,h'=>by rw[show _=[] from h];exact h'
 |s::l,m,_,us,⟨v,r,e,E,G⟩,h'=>⟨v,r++us,by rw[e];rfl,E,cg.uX l m r us G h'⟩
def cg.FF: ∀(n:Nat) (l:List bE) (aF:aH4),cg ρ I w l aF->cg ρ I w (l.take n) (aF.take n)
 |0,_,_,_=>rfl
 |n+1,[],_,h=>by rw[show _=[] from h];rfl
 |n+1,s::l,_,⟨v,r,e,E,G⟩=>⟨v,r.take n,by rw[e];rfl,E,cg.FF n l r G⟩
def cg.ry: ∀(n:Nat) (l:List bE) (aF:aH4),cg ρ I w l aF->cg ρ I w (l.drop n) (aF.drop n)
 |0,_,_,h=>h
 |n+1,[],_,h=>by rw[show _=[] from h];rfl
 |n+1,s::l,_,⟨v,r,e,E,G⟩=>by rw[e];exact cg.ry n l r G
def cg.splice {l cs:List bE} {aF us:aH4} {o:Nat} (h:cg ρ I w l aF) (h':cg ρ I w cs us):cg ρ I w (Ck l o cs) (aF.take o++us++aF.drop (o+us.length)):=by unfold Ck;rw[cg.length cs us h'];exact cg.uX _ _ _ _ (cg.uX _ _ _ _ (cg.FF _ _ _ h) h') (cg.ry _ _ _ h)
def ok_one {s:bE} {v:aI3} (h:s.ok=true) (az:d' ρ I w s v):v.oneCell'=true:=by
 cases s with
 |d x=>
  cases x with
  |bG u xs=>obtain⟨A,cap,e,_⟩:=az;injection e with e;rw[e];rfl
  |dz y=>rw[show v=rp y from az];rcases y with _ |⟨b,n,c⟩ <;>rfl
  |fn y=>rw[show v=mV y from az];rfl
  |_=>rw[show v=_ from az];rfl
 |ptr c o=>rw[show v=_ from az];rfl
 |own c=>rw[show v=_ from az];rfl
 |el u x o=>obtain⟨b,p,e,_⟩:=az;rw[e];rfl
 |fW c s i o=>rw[show v=_ from az];rfl
 |os c s o n=>rw[show v=_ from az];rfl
 |mp c=>rw[show v=_ from az];rfl
 |c3 f l=>obtain⟨aF,e,_⟩:=az;rw[e];rfl
 |dV=>rw[show v=_ from az];rfl
 |bN u=>
  rw[show v=u from az]
  cases u <;>first |rfl |(simp[bE.ok] at h)
 |any=>simp[bE.ok] at h
def Qb: ∀{l:List bE} {aF:aH4},Fj l=true->cg ρ I w l aF-> ∀u∈aF,u.oneCell'=true
 | [],_,_,az,u,a6=>by rw[show _=[] from az] at a6;cases a6
 |s::l,_,h,⟨v,r,e,E,G⟩,u,a6=>by
  simp only[Fj,as1] at h;subst e;rcases as8.1 a6 with rfl |a6
  .exact ok_one h.1 E
  .exact Qb h.2 G u a6
def JW {pR:aS} {l:List bE} {v:aI3} (h:wy pR=some l) (az:cA ρ I w pR v): ∃aF,v.cells=List.toArray aF/\cg ρ I w l aF/\ ∀u∈aF,u.oneCell'=true:=by
 unfold wy at h
 split at h
 .split at h
  .rename_i s au;injection h with h
   subst h;have E:=ok_one au az;refine⟨[v],?_,⟨v,[],rfl,az,rfl⟩,fun u a6=>by simp at a6;rw[a6];exact E⟩
   cases v <;>first |rfl |(simp[Value.oneCell'] at E)
  .cases h
 .split at h
  .rename_i l' ak;injection h with h
   subst h;obtain⟨aF,e,G⟩:=az;exact⟨aF,by rw[e];rfl,G,Qb ak G⟩
  .cases h
 .cases h
end
def dp {α:Type} (f:Nat->α) (c:Nat) (x:α):Nat->α:=fun d=>if d=c then x else f d
def dh {α:Type} (f:Nat->α) (c:Nat) (x:α):dp f c x c=x:=vj rfl
def du {α:Type} (f:Nat->α) {c d:Nat} (x:α) (h:d≠c):dp f c x d=f d:=mu h
def Qc {c:Nat}: ∀{K:aZ},uP c K=true-> ∀s,(dR K s).has c=false
 | [],_,s=>rfl
 |(t,v)::K,h,s=>by
  simp only[uP,as1,au9] at h;rw[kV]
  split
  .exact h.1
  .exact Qc h.2 s
def uY {c:Nat}: ∀{B:aA},kZ c B=true->aj B c=none/\ ∀d ch,aj B d=some ch->ch.has c=false
 | [],_=>⟨rfl,fun d ch h=>by cases h⟩
 |(t,v)::B,h=>by
  simp only[kZ,as1,au9] at h;obtain⟨E,G⟩:=uY h.2;have a8:t≠c:=fun e=>by subst e;simp at h
  refine⟨by rw[ci,mu a8];exact E,fun d ch H=>?_⟩;rw[ci] at H
  split at H
  .injection H with H;subst H;exact h.1.2
  .exact G d ch H
def ls {ids:aH0} {K:aZ} {B:aA} {c:Nat} (h:hk ids K B c=true):(∀s,(dR K s).has c=false)/\aj B c=none/\(∀d ch,aj B d=some ch->ch.has c=false)/\c∉ids:=by simp only[hk,as1,au9] at h;obtain⟨G,ah⟩:=uY h.1.2;exact⟨Qc h.1.1,G,ah,by simpa using h.2⟩
section
variable {P:aH6} {aV:dt} {N:Nat} {ids:aH0} {o:Oper} {K:aZ} {B:aA} {C:fv} {ρ:Nat->bq} {F:Nat->Nat->Prop} {w w':aH5}
def Mem.make (h:Mem ids C B ρ F w) {c:Nat} {ch:ba} (hf:hk ids K B c=true) (O:Below w.heap.size w w') (pl:bq) (cj:Nat->Prop) (lu: ∀b,cj b->w.heap.size<=b/\b < w'.heap.size)
  (c4: ∀I,cp (b5 C B F w) w I w'->(∀b,I b->b < w'.heap.size/\ ¬cj b)->Holds (dp ρ c pl) I cj w' pl ch):
  Mem ids C ((c,ch)::B) (dp ρ c pl) (dp F c cj) w'/\cp (b5 C B F w) w (b5 C ((c,ch)::B) (dp F c cj) w') w':=by
 obtain⟨eW,e9,f3,iZ⟩:=ls hf;refine h.step (fun d=>d=c) (fun d=>d=c) (cZ.pP O) ?_ (fun d H=>du _ _ H) (fun d H=>du _ _ H) (fun d H e=>iZ (e▸H)) (fun _ h=>h) ?_ ?_ ?_ ?_
 .intro d ch' H a8;rw[ci,mu (fun e=>a8 e.symm)] at H;exact H
 .rintro d ch' H _ e U rfl;rw[f3 d ch' H] at U
  cases U
 .rintro d ch' H rfl U;rw[ci,vj rfl] at H;injection H with H
  subst H;rw[dh,dh];exact c4 _ U fun b dB=>⟨dB.1,fun aU=>dB.2.2 d ch aF2 (by rw[dh];exact aU)⟩
 .rintro d ch' H rfl b aU;rw[dh] at aU;exact⟨(lu b aU).2,.inr (lu b aU).1⟩
 .rintro d da jm pc b _ _ rfl rfl a8;exact as3 rfl a8
def Mem.h8 (h:Mem ids C B ρ F w) {c:Nat} {cG ch:ba} (J:aj B c=some cG) (cJ:cZ (F c) w w')
  (c4: ∀I,cp (b5 C B F w) w I w'->Holds ρ I (F c) w' (ρ c) ch):
  Mem ids C ((c,ch)::B) ρ F w'/\cp (b5 C B F w) w (b5 C ((c,ch)::B) F w') w':=by
 refine h.step (fun d=>d=c) (fun _=>False) (cJ.mono fun b _ O=>⟨c,cG,J,rfl,O⟩) ?_ (fun _ _=>rfl) (fun _ _=>rfl) (fun _ _ h=>h) (fun _ h=>h.elim) (fun _ _ _ _ _ _ h=>h) ?_ ?_ ?_
 .intro d ch' H a8;rw[ci,mu (fun e=>a8 e.symm)] at H;exact H
 .rintro d ch' H rfl U;rw[ci,vj rfl] at H;injection H with H
  subst H;exact c4 _ U
 .rintro d ch' H rfl b O;exact⟨au2 (h.own d cG J b O).1 cJ.size,.inl ⟨d,cG,J,rfl,O⟩⟩
 .rintro d da jm pc b _ _ rfl rfl a8;exact as3 rfl a8
def bD.make {c:Nat} {ch:ba} {v:aS} {jE:aH0} (az: ∀d,v.has d=true->d=c)
  (h: ∀(K':aZ) (B':aA),(∀x,x∈o.op.operands->a7 K' x=a7 K x)->(∀c,c∈jE->aj B' c=aj B c)-> ∀(C:fv) (ρ:Nat->bq) (F:Nat->Nat->Prop) (a:Act) (w:aH5),Mem ids C B' ρ F w->eF K' ρ (b5 C B' F w) a w->
   (∀s,(dR K' s).has c=false)-> ∃x w' pl cj,(execOp a.eval o).run P w= .ok (.value x) w'/\Below w.heap.size w w'/\(∀b,cj b->w.heap.size<=b/\b < w'.heap.size)/\
    (∀I,cp (b5 C B' F w) w I w'->(∀b,I b->b < w'.heap.size/\ ¬cj b)->Holds (dp ρ c pl) I cj w' pl ch/\cA (dp ρ c pl) I w' v x)):
  bD P N ids o K B v ⟨jE,[c],[(c,some ch)]⟩:=by
 rintro K' B' E G ah C a w ⟨hn,H,ρ,F,al,av⟩ bv ga Q cE;have hf:=ah c aD3;have cJ:=ls hf;obtain⟨x,w',pl,cj,hx,O,lu,c4⟩:=h K' B' E G C ρ F a w al av cJ.1;obtain⟨bC,U⟩:=al.make hf O pl cj lu fun I af ao=>(c4 I af ao).1
 unfold Oper.wp;rw[hx,Oper.upon_value];refine cE _ _ ⟨kW.trans hn,kX.trans H,dp ρ c pl,dp F c cj,bC,(av.mono U fun s d H=>du _ _ (fun e=>by subst e;rw[cJ.1 s] at H;cases H)).kY (fun e U=>by rw[hn];exact bv e U) ?_⟩;exact(c4 _ U fun b dB=>⟨dB.1,fun aU=>dB.2.2 c ch aF2 (by rw[dh];exact aU)⟩).2
def bD.h8 {c:Nat} {cG ch:ba} (J:aj B c=some cG)
  (h: ∀(K':aZ) (B':aA),(∀x,x∈o.op.operands->a7 K' x=a7 K x)-> ∀(C:fv) (ρ:Nat->bq) (F:Nat->Nat->Prop) (a:Act) (w:aH5),Mem ids C B' ρ F w->eF K' ρ (b5 C B' F w) a w->aj B' c=some cG-> ∃w',(execOp a.eval o).run P w= .ok .skip w'/\cZ (F c) w w'/\
   (∀I,cp (b5 C B' F w) w I w'->Holds ρ I (F c) w' (ρ c) ch)):
  bD P N ids o K B .undef ⟨[c],[],[(c,some ch)]⟩:=by
 rintro K' B' E G - C a w ⟨hn,H,ρ,F,al,av⟩ bv ga Q cE;have cW:aj B' c=some cG:=(G c aD3).trans J;obtain⟨w',hx,cJ,c4⟩:=h K' B' E C ρ F a w al av cW;obtain⟨bC,U⟩:=al.h8 cW cJ c4;unfold Oper.wp;rw[hx,Oper.upon_skip];exact cE _ _ ⟨kW.trans hn,kX.trans H,ρ,F,bC,(av.mono U fun _ _ _=>rfl).kY (fun e U=>by rw[hn];exact bv e U) rfl⟩
def Qd {T:aI0} {p:Addr} {v:aI3} {d:aJ1} (a6:P.underlying T=some d) (H:d.isRow=false) (J:w.cell? p=some v):(loadVar T p).run P w= .ok v w:=by cases d <;>first |(simp[TypeDesc.isRow] at H;done) |simp[loadVar,isAgg,run_underlying a6,go_sem,J]
def FG {ev:Operand->Value} {T:aI0} {x:aH8} {p:Addr} {v:aI3} {d:aJ1} (ag:o.op= .load T x) (E:ev x= .pointer (some p)) (a6:P.underlying T=some d) (H:d.isRow=false) (J:w.cell? p=some v):(execOp ev o).run P w= .ok (.value v) w:=by unfold execOp;simp only[ag,E,Instr.loadAt,Instr.sureAddr,aw5,ax2,au5,Qd a6 H J]
def FH {ev:Operand->Value} {T:aI0} {x:aH8} {b p:Nat} {cs:aH4} {d:aJ1} {i:aI9} (ag:o.op= .load T x) (E:ev x= .pointer (some ⟨b,p,none⟩)) (a6:P.underlying T=some d) (H:d.isRow=true) (aE:P.info? T=some i) (ak:i.size=cs.length)
  (J: ∀(j:Nat) (u:Value),cs[j]? =some u->w.cell? ⟨b,p+j,none⟩=some u):(execOp ev o).run P w= .ok (.value (.agg cs.toArray)) w:=by
 unfold execOp;simp only[ag,E,Instr.loadAt,Instr.sureAddr,aw5,ax2,au5,run_loadVar_mid w b p T cs d J a6 H (by rw[aE,ay7,ak])]
def pd {b:Nat} {aF:aH4} {T:Nat} (h:w.heap[b]? =some (.cells (List.toArray aF) T (0,0))) {j:Nat} {v:aI3} (V:aF[j]? =some v):w.cell? ⟨b,j,none⟩=some v:=by simp[World.cell?,h,V]
def Ct {ev:Operand->Value} {T:aI0} {x y:aH8} {b p:Nat} {aF us:aH4} {bB:Nat} {i:aI9} (ag:o.op= .store T x y) (E:ev x= .pointer (some ⟨b,p,none⟩)) (aC:(ev y).cells=List.toArray us) (aE:P.info? T=some i) (ak:i.size=us.length)
  (O:w.heap[b]? =some (.cells (List.toArray aF) bB (0,0))) (lI:p+us.length<=aF.length) (sH: ∀u∈us,u.oneCell'=true):
  (execOp ev o).run P w= .ok .skip (w.setRow b (aF.take p++us++aF.drop (p+us.length)).toArray):=by
 have au:=run_storeCells_at (P:=P) b p bB us 0 (List.toArray aF) w O (by simpa using lI) sH;simp only[az5,List.toList_toArray] at au;have aN:(ev y).cells.size=i.size:=by rw[aC,ak];simp
 unfold execOp;simp[ag,E,Instr.storeAt,Instr.sureAddr,storeVar,sizeOf,typeInfo,aE,aC,ak,au]
end
end
section
section
variable {P:aH6} {aV:dt} {N:Nat} {ids:aH0} {o:Oper} {K:aZ} {B:aA} {k:aS->fE->Prop}
def cN (P:aH6) (N:Nat) (ids:aH0) (o:Oper) (K:aZ) (B:aA) (k:aS->fE->Prop):Prop:= ∃v e,k v e/\bD P N ids o K B v e/\ ∀c,c∈e.bb->hk ids K B c=true
def cN.of {v:aS} {jE:aH0} {iV:List (Nat×Option ba)} (h:k v ⟨jE,[],iV⟩) (aq:bD P N ids o K B v ⟨jE,[],iV⟩):cN P N ids o K B k:=⟨_,_,h,aq,fun c J=>by cases J⟩
def cN.bb {v:aS} {jE:aH0} {d:Nat} {iV:List (Nat×Option ba)} (h:k v ⟨jE,[d],iV⟩) (hf:hk ids K B d=true) (aq:bD P N ids o K B v ⟨jE,[d],iV⟩):cN P N ids o K B k:=⟨_,_,h,aq,fun c J=>by simp at J;rw[J];exact hf⟩
def Qe {x:aH8} (ag:o.op= .move x\/o.op= .assign x) (h:o7 (a7 K x) fun v=>k v bK):cN P N ids o K B k:=by
 rw[sD] at h;refine cN.of h <| bD.one rfl (by rcases ag with ag |ag <;>rw[ag] <;>simp[Op.operands]) fun K' ρ I a w av e=>⟨_,?_,av.ev e⟩
 rcases ag with ag |ag <;>simp[execOp,ag]
def ZF {c x y:aH8} (ag:o.op= .pick c x y) (h:match a7 K c with
  | .c (.one (.d (.lit true)))=>o7 (a7 K x) fun v=>k v bK
  | .c (.one (.d (.lit false)))=>o7 (a7 K y) fun v=>k v bK
  |_=>False):cN P N ids o K B k:=by
 have m1:c∈o.op.operands:=aD8
 have m2:x∈o.op.operands:=aD8
 have m3:y∈o.op.operands:=aD8
 split at h
 .rename_i J;rw[sD] at h;exact cN.of h <| bD.two J rfl m1 m2 fun K' ρ I a w av af ao=>⟨_,by simp[execOp,ag,av.lit af,asBool],av.ev ao⟩
 .rename_i J;rw[sD] at h;exact cN.of h <| bD.two J rfl m1 m3 fun K' ρ I a w av af ao=>⟨_,by simp[execOp,ag,av.lit af,asBool],av.ev ao⟩
 .exact h.elim
def ZG {T:aI0} {x:aH8} (ag:o.op= .unOp .not T x) (h:match a7 K x with
  | .c (.one (.d (.lit true)))=>k (.c (.one (.d (.lit false)))) bK
  | .c (.one (.d (.lit false)))=>k (.c (.one (.d (.lit true)))) bK
  | .c (.one (.d (.bool b)))=>k (.c (.one (.d (.bool (!b))))) bK
  |_=>False):cN P N ids o K B k:=by
 have m1:x∈o.op.operands:=aD8
 split at h
 .rename_i J;exact cN.of h <| bD.one J m1 fun K' ρ I a w av af=>⟨_,by simp[execOp,ag,av.lit af,Op.unary],rfl⟩
 .rename_i J;exact cN.of h <| bD.one J m1 fun K' ρ I a w av af=>⟨_,by simp[execOp,ag,av.lit af,Op.unary],rfl⟩
 .rename_i b J;exact cN.of h <| bD.one J m1 fun K' ρ I a w av af=>⟨_,by simp[execOp,ag,av.bool af,Op.unary],rfl⟩
 .exact h.elim
def jb.get {ρ:Nat->bq} {I:Nat->Prop} {w:aH5}: ∀(l:List d0) (aF:aH4),jb ρ I w l aF-> ∀(i:Nat) (s:d0),l[i]? =some s-> ∃v,aF[i]? =some v/\gS ρ I w s v
 | [],_,h,i,s,au=>by simp at au
 |t::l,_,⟨v,r,e,E,G⟩,0,s,au=>by
  simp only[at9,as9] at au;subst au e;exact⟨v,rfl,E⟩
 |t::l,_,⟨v,r,e,E,G⟩,i+1,s,au=>by
  subst e;simpa using jb.get l r G i s (by simpa using au)
def ZH {x:aH8} {i:Nat} (ag:o.op= .extract x i) (h:match a7 K x with
  | .cn l=>match l[i]? with
   |some v=>k (.c v) bK
   |none=>False
  |_=>False):cN P N ids o K B k:=by
 have m1:x∈o.op.operands:=aD8
 split at h
 .rename_i l ak
  split at h
  .rename_i v az;refine cN.of h <| bD.one ak m1 fun K' ρ I a w av af=>?_
   obtain⟨aF,e,G⟩:=av.ev af;obtain⟨u,a6,ah⟩:=jb.get l aF G i v az;exact⟨u,by simp[execOp,ag,e,Instr.extract,a6],ah⟩
  .exact h.elim
 .exact h.elim
def ZI {x:aH8} (ag:o.op= .nilCheck x) (h:match a7 K x with
  | .c (.one (.ptr c o))=>k (.c (.one (.ptr c o))) bK
  | .c (.one (.el u y o))=>k (.c (.one (.el u y o))) bK
  | .c (.one (.fW c s i o))=>k (.c (.one (.fW c s i o))) bK
  |_=>False):cN P N ids o K B k:=by
 have m1:x∈o.op.operands:=aD8
 split at h
 .rename_i c p J;exact cN.of h <| bD.one J m1 fun K' ρ I a w av af=>⟨_,by simp[execOp,ag,av.ptr af],rfl⟩
 .rename_i u y p J;refine cN.of h <| bD.one J m1 fun K' ρ I a w av af=>⟨a.eval x,?_,av.ev af⟩
  obtain⟨b,q,e,_⟩:=av.ev af;simp[execOp,ag,e]
 .rename_i c s i p J;exact cN.of h <| bD.one J m1 fun K' ρ I a w av af=>⟨_,by simp[execOp,ag,av.fW af],rfl⟩
 .exact h.elim
def FI {ev:Operand->Value} {T:aI0} {x:aH8} {f g off d:Nat} {w:aH5} {fs:Array Field} {kn:Field} {i:aI9} (E:ev x= .pointer (some ⟨g,off,none⟩)) (ag:o.op= .fieldAddr T x f)
  (b8:P.underlying T=some (.struct fs)) (sI:fs[f]? =some kn) (H:kn.offset=d) (aE:P.info? kn.type=some i) (cz:i.size≠0):(execOp ev o).run P w= .ok (.value (.pointer (some ⟨g,off+d,none⟩))) w:=by
 subst H;simp[execOp,ag,E,Instr.fieldAt,run_underlying b8,sI,Instr.sureAddr,fieldPlace,sizeOf,typeInfo,aE,cz,qt]
def ZJ (bl:eq P aV) {T:aI0} {x:aH8} {f:Nat} (ag:o.op= .fieldAddr T x f) (h:match Jz aV T f with
  |some (d,_)=>match a7 K x with
   | .c (.one (.ptr c o))=>k (.c (.one (.ptr c (o+d)))) bK
   | .c (.one (.el u y o))=>k (.c (.one (.el u y (o+d)))) bK
   | .c (.one (.fW c s i o))=>k (.c (.one (.fW c s i (o+d)))) bK
   |_=>False
  |none=>False):cN P N ids o K B k:=by
 have m1:x∈o.op.operands:=aD8
 split at h
 .rename_i d n H
  have⟨fs,kn,i,b8,sI,JX,aE,aN⟩: ∃fs kn i,P.underlying T=some (.struct fs)/\fs[f]? =some kn/\kn.offset=d/\P.info? kn.type=some i/\i.size≠0:=by
   unfold Jz at H
   split at H
   .rename_i ti gT
    split at H
    .rename_i Z;obtain⟨i,tS,bx⟩:=bl.at_ gT;obtain⟨fs,a6,rfl⟩:=bx.st Z;obtain⟨kn,Qf,E,G,ah,aW,bM⟩:=P5 _ _ (bx.mZ fs rfl) f d n H;exact⟨fs,kn,Qf,a6,by simpa using E,G,ah,by rw[aW];exact bM⟩
    .cases H
   .cases H
  split at h
  .rename_i c p J;exact cN.of h <| bD.one J m1 fun K' ρ I a w av af=>⟨_,FI (av.ptr af) ag b8 sI JX aE aN,rfl⟩
  .rename_i u y p J;refine cN.of h <| bD.one J m1 fun K' ρ I a w av af=>?_
   obtain⟨b,q,e,G⟩:=av.ev af;exact⟨_,FI e ag b8 sI JX aE aN,b,q,by rw[Nat.add_assoc],G⟩
  .rename_i c s j p J;exact cN.of h <| bD.one J m1 fun K' ρ I a w av af=>⟨_,FI (av.fW af) ag b8 sI JX aE aN,by simp only[cA,gS,d'];rw[Nat.add_assoc]⟩
  .exact h.elim
 .exact h.elim
def FJ {ρ:Nat->bq} {I:Nat->Prop} {w:aH5} {u:bB} {y:aa u} {c:Nat->Option Value} (aC:cw I w u y c): ∀(n p:Nat),p+n<=aR u-> ∃aF,cg ρ I w (gI u y p n) aF/\ ∀(j:Nat) (v:aI3),aF[j]? =some v->c (p+j)=some v
 |0,p,_=>⟨[],rfl,fun j v h=>by simp at h⟩
 |n+1,p,h=>by
  obtain⟨v,E,G⟩:=cw.cell u y c p aC aD1;obtain⟨aF,ah,aW⟩:=FJ aC n (p+1) aD1;refine⟨v::aF,⟨v,aF,rfl,G,ah⟩,fun j dr V=>?_⟩
  match j with
  |0=>simp only[at9,as9] at V;subst V;exact E
  |j+1=>rw[show p+(j+1)=p+1+j by omega];exact aW j dr aF1
def tT (u:bB) (y:aa u): ∀(n p:Nat),(gI u y p n).length=n
 |0,_=>rfl
 |n+1,p=>by simp[gI,tT u y n]
def Ag (u:bB) (y:aa u): ∀(n p i:Nat),i < n->(gI u y p n)[i]? =some (.d (fS u y (p+i)))
 |0,p,i,h=>by omega
 |n+1,p,0,h=>rfl
 |n+1,p,i+1,h=>by
  have:=Ag u y n (p+1) i aD1;rw[show p+1+i=p+(i+1) by omega] at this;simpa[gI] using this
def Cu {ρ:Nat->bq} {I:Nat->Prop} {w:aH5} {u:bB} {y:aa u} (hw:o4 u y) {aF:aH4} (h:cg ρ I w (gI u y 0 (aR u)) aF):cw I w u y (fun j=>aF[j]?):=
 cw.mk u y _ hw fun j V=>by
  have aU:=Ag u y (aR u) 0 j V;rw[aw9] at aU;obtain⟨v,af,ao⟩:=cg.get _ _ h j _ aU;exact⟨v,af,ao⟩
def FK {T:aI0} {x:aH8} (ag:o.op= .load T x) {ti:cd} {i:aI9} {d:aJ1} (bx:mx P T ti i d) {u:bB} {y:aa u} {p:Nat} {a:Act} {w:aH5} {I:Nat->Prop} {ρ:Nat->bq} {b q:Nat}
  (U:a.eval x= .pointer (some ⟨b,q+p,none⟩)) (aC:cw I w u y (fun j=>w.cell? ⟨b,q+j,none⟩)):
  (ti.row=true->p+ti.size<=aR u-> ∃r,(execOp a.eval o).run P w= .ok (.value r) w/\cA ρ I w (.c (.agg (gI u y p ti.size))) r)/\
  (ti.row=false->p < aR u-> ∃r,(execOp a.eval o).run P w= .ok (.value r) w/\cA ρ I w (.c (.one (.d (fS u y p)))) r):=by
 constructor
 .intro ax gy;obtain⟨aF,E,G⟩:=FJ (ρ:=ρ) aC ti.size p gy;refine⟨_,FH (cs:=aF) ag U bx.om (bx.row.trans ax) bx.km (by rw[cg.length _ _ E,tT];exact bx.size) (fun j v V=>?_),aF,rfl,E⟩;rw[Nat.add_assoc];exact G j v V
 .intro ax bv;obtain⟨v,E,G⟩:=cw.cell u y _ p aC bv;exact⟨v,FG ag U bx.om (bx.row.trans ax) E,G⟩
def ZK {ρ:Nat->bq} {I F:Nat->Prop} {w:aH5} {p:bq} {e:aI0} {u:bB} {xs:List (aa u)} (h:Holds ρ I F w p (.row e u xs)) {i:Nat} {y:aa u} (aC:fd xs i=some y):
  cw I w u y (fun j=>w.cell? ⟨p.bm,i*aR u+j,none⟩):=by
 obtain⟨E,G,cs,ah,aW⟩:=h;refine cw.mono (cp.refl _ _) u y _ _ (fun j v V=>?_) (aW i y aC);have V:cs[i*aR u+j]? =some v:=V;have hx:=Cg aC;have Cv:=ah;obtain⟨ak,ah⟩:=ah;rcases ah with⟨_,aw⟩ |⟨g,cap,dm,az,_,aU,_,_,_,cm⟩
 .omega
 .have O:p.eS.ownBlock=some g:=by rw[az];rfl
  rw[<-G g O];have:=Cv.cells O (i*aR u+j) v V
  rwa[qt,aw9] at this
def ZL (bl:eq P aV) {T:aI0} {x:aH8} (ag:o.op= .load T x) (h:match aV.find T with
  |some ti=>match a7 K x with
   | .c (.one (.ptr c o))=>match aj B c with
    |some (.cells l)=>match ti.row with
     |true=>match Nat.ble (o+ti.size) l.length with
      |true=>pQ ((l.drop o).take ti.size) fun l=>k (.c (.agg l)) ⟨[c],[],[]⟩
      |false=>False
     |false=>match l[o]? with
      |some s=>zZ s fun s=>k (.c (.one s)) ⟨[c],[],[]⟩
      |none=>False
    |_=>False
   | .c (.one (.el u y o))=>match ti.row with
    |true=>match Nat.ble (o+ti.size) (aR u) with
     |true=>pQ (gI u y o ti.size) fun l=>k (.c (.agg l)) bK
     |false=>False
    |false=>match Nat.blt o (aR u) with
     |true=>zY (fS u y o) fun x=>k (.c (.one (.d x))) bK
     |false=>False
   | .c (.one (.fW c s i o))=>match aj B c with
    |some (.row _ u xs)=>match Nat.beq s (aR u) with
     |true=> ∃y,fd xs i=some y/\match ti.row with
      |true=>match Nat.ble (o+ti.size) (aR u) with
       |true=>pQ (gI u y o ti.size) fun l=>k (.c (.agg l)) ⟨[c],[],[]⟩
       |false=>False
      |false=>match Nat.blt o (aR u) with
       |true=>zY (fS u y o) fun x=>k (.c (.one (.d x))) ⟨[c],[],[]⟩
       |false=>False
     |false=>False
    |_=>False
   |_=>False
  |none=>False):cN P N ids o K B k:=by
 have m1:x∈o.op.operands:=aD8
 split at h
 .rename_i ti gT;obtain⟨i,d,bx⟩:=bl.at_ gT
  split at h
  .rename_i c p J
   split at h
   .rename_i l ak
    have key: ∀(K':aZ) (B':aA),(∀x,x∈o.op.operands->a7 K' x=a7 K x)->(∀d,d∈ [c]->aj B' d=aj B d)-> ∀(C:fv) (ρ:Nat->bq) (F:Nat->Nat->Prop) (a:Act) (w:aH5),Mem ids C B' ρ F w->eF K' ρ (b5 C B' F w) a w->
      a.eval x= .pointer (some ⟨(ρ c).bm,p,none⟩)/\ ∃aF T,w.heap[(ρ c).bm]? =some (.cells (List.toArray aF) T (0,0))/\cg ρ (b5 C B' F w) w l aF:=fun K' B' E G C ρ F a w al av=>by
     have bd:=al.holds c _ ((G c aD3).trans ak);exact⟨av.ptr ((E x m1).trans J),bd.2⟩
    split at h
    .rename_i ax
     split at h
     .rename_i gy;have gy:=aA1 gy;rw[z1] at h;refine cN.of h <| bD.val fun K' B' E G C ρ F a w al av=>?_
      obtain⟨af,aF,e8,O,H⟩:=key K' B' E G C ρ F a w al av;have lv:=cg.FF ti.size _ _ (cg.ry p _ _ H);refine⟨_,FH (cs:=(aF.drop p).take ti.size) ag af bx.om (bx.row.trans ax) bx.km ?_ (fun j u V=>?_),_,rfl,lv⟩
      .rw[cg.length _ _ lv,at3,ax4,bx.size];omega
      .rw[ax3] at V
       split at V
       .rw[aA7] at V;exact pd O V
       .cases V
     .exact h.elim
    .rename_i ax
     split at h
     .rename_i s au;rw[Ji] at h;refine cN.of h <| bD.val fun K' B' E G C ρ F a w al av=>?_
      obtain⟨af,aF,e8,O,H⟩:=key K' B' E G C ρ F a w al av;obtain⟨v,az,lv⟩:=cg.get _ _ H p s au;exact⟨v,FG ag af bx.om (bx.row.trans ax) (pd O az),lv⟩
     .exact h.elim
   .exact h.elim
  .rename_i u y p J
   split at h
   .rename_i ax
    split at h
    .rename_i gy;rw[z1] at h;refine cN.of h <| bD.one J m1 fun K' ρ I a w av af=>?_
     obtain⟨b,q,e,_,aC⟩:=av.ev af;exact(FK ag bx e aC).1 ax (aA1 gy)
    .exact h.elim
   .rename_i ax
    split at h
    .rename_i bv;rw[Jh] at h;refine cN.of h <| bD.one J m1 fun K' ρ I a w av af=>?_
     obtain⟨b,q,e,_,aC⟩:=av.ev af;exact(FK ag bx e aC).2 ax (by simpa[Nat.blt_eq] using bv)
    .exact h.elim
  .rename_i c s j p J
   split at h
   .rename_i e u xs ak
    split at h
    .rename_i au;have au:=at1 au;subst au;obtain⟨y,aC,h⟩:=h
     have key: ∀(K':aZ) (B':aA),(∀x,x∈o.op.operands->a7 K' x=a7 K x)->(∀d,d∈ [c]->aj B' d=aj B d)-> ∀(C:fv) (ρ:Nat->bq) (F:Nat->Nat->Prop) (a:Act) (w:aH5),Mem ids C B' ρ F w->eF K' ρ (b5 C B' F w) a w->
       a.eval x= .pointer (some ⟨(ρ c).bm,j*aR u+p,none⟩)/\cw (b5 C B' F w) w u y (fun i=>w.cell? ⟨(ρ c).bm,j*aR u+i,none⟩):=fun K' B' E G C ρ F a w al av=>
      ⟨av.fW ((E x m1).trans J),ZK (al.holds c _ ((G c aD3).trans ak)) aC⟩
     split at h
     .rename_i ax
      split at h
      .rename_i gy;rw[z1] at h;refine cN.of h <| bD.val fun K' B' E G C ρ F a w al av=>?_
       obtain⟨af,ao⟩:=key K' B' E G C ρ F a w al av;exact(FK ag bx af ao).1 ax (aA1 gy)
      .exact h.elim
     .rename_i ax
      split at h
      .rename_i bv;rw[Jh] at h;refine cN.of h <| bD.val fun K' B' E G C ρ F a w al av=>?_
       obtain⟨af,ao⟩:=key K' B' E G C ρ F a w al av;exact(FK ag bx af ao).2 ax (by simpa[Nat.blt_eq] using bv)
      .exact h.elim
    .exact h.elim
   .exact h.elim
  .exact h.elim
 .exact h.elim
end
end
section
section
variable {ρ:Nat->bq} {I:Nat->Prop} {w:aH5}
def cw.wf: ∀(u:bB) (x:aa u) (c:Nat->Option Value),cw I w u x c->o4 u x:=by
 intro u
 induction u with
 |bU u v o5 o6=>exact fun x c h=>⟨o5 _ _ h.1,o6 _ _ h.2⟩
 |arr n u bn=>
  refine fun x c h=>⟨h.1,fun y aC=>?_⟩
  obtain⟨i,aE⟩:=List.getElem?_of_mem (α:=aa u) aC;exact bn _ _ (h.2 i y aE)
 |_=>exact fun x c h=>trivial
def cw.one (u:bB) (x:aa u) (c:Nat->Option Value) (h:cw I w u x c) (j:Nat) (V:j < aR u): ∃v,c j=some v/\v.oneCell'=true:=by obtain⟨v,E,G⟩:=cw.cell u x c j h V;exact⟨v,E,ok_one (ρ:=fun _=>⟨0,none,0,0⟩) (s:=.d (fS u x j)) rfl G⟩
def Qg {i j n s:Nat} (aE:i < n) (V:j < s):i*s+j < n*s:=by have:=ax5 s aE;rw[az3] at this;omega
def Qh {u:bB} {ys:List (aa u)} {v:aI3} (h:cw I w (.cc u) ys (fun _=>some v)) (a1: ∀b,I b->b < w.heap.size):
  ∃e7,gl I w (aR u) v ys.length e7/\g7 I w u ys e7/\ ∀x∈e7,x.oneCell'=true:=by
 obtain⟨A,cap,e,E,G,ah⟩:=h;injection e with e
 subst e;rcases aB3 ys.length with aw |aw
 .have aC:ys=[]:=aw8 aw;subst aC;exact⟨[],⟨aD3,A,cap,rfl,E,G,fun h=>as3 h aD3⟩,fun i x hx=>by simp at hx,fun x hx=>by cases hx⟩
 .obtain⟨b,o,rfl,O,hx⟩:=ah aw
  have J: ∀i (aE:i < ys.length) j,j < aR u-> ∃v,w.cell? ⟨b,o+(i*aR u+j),none⟩=some v/\v.oneCell'=true:=fun i aE j V=>
   cw.one u _ _ (hx i ys[i] (by simp[fd,aE])) j V
  have hn: ∀j,j < ys.length*aR u-> ∃v,w.cell? ⟨b,o+j,none⟩=some v/\v.oneCell'=true:=fun j V=>by
   obtain⟨af,ao,bo⟩:=Fb V;have:=J _ af _ ao
   rwa[bo] at this
  have m4: ∀j,j < ys.length*aR u->((List.range (ys.length*aR u)).map fun j=>(w.cell? ⟨b,o+j,none⟩).getD undef)[j]? =w.cell? ⟨b,o+j,none⟩:=fun j V=>by
   obtain⟨v,az,_⟩:=hn j V;rw[au8,List.getElem?_range V];simp[az]
  refine⟨(List.range (ys.length*aR u)).map fun j=>(w.cell? ⟨b,o+j,none⟩).getD undef,⟨aD3,some ⟨b,o,none⟩,cap,rfl,E,G,fun _=>⟨b,o,rfl,O,a1 b O,fun j x V=>?_⟩⟩,fun i x dY=>?_,fun x dY=>?_⟩
  .have k1:=(at0.1 V).1;simp only[at8,List.length_range] at k1
   rwa[m4 j k1] at V
  .have aE:=(at0.1 dY).1;have H:=hx i x dY;refine cw.mk u x _ (cw.wf u x _ H) fun j V=>?_
   obtain⟨v,az,aW⟩:=cw.cell u x _ j H V;exact⟨v,by rw[m4 _ (Qg aE V)];exact az,aW⟩
  .obtain⟨j,V,rfl⟩:=av0.1 dY;obtain⟨v,az,aW⟩:=hn j (List.mem_range.1 V);simpa[az] using aW
def g7.uX {u:bB} {xs ys:List (aa u)} {cs ds:aH4} (h:g7 I w u xs cs) (h':g7 I w u ys ds) (ak:cs.length=xs.length*aR u):g7 I w u (xs++ys) (cs++ds):=fun i x hx=>by
 by_cases aE:i < xs.length
 .rw[au7 aE] at hx;have H:=h i x hx;refine cw.mk u x _ (cw.wf u x _ H) fun j V=>?_
  obtain⟨v,az,aW⟩:=cw.cell u x _ j H V;exact⟨v,by rw[au7 (by rw[ak];exact Qg aE V)];exact az,aW⟩
 .rw[au6 aD1] at hx;have H:=h' _ x hx;refine cw.mono (cp.refl _ _) u x _ _ (fun j v V=>?_) H;have e:i*aR u=xs.length*aR u+(i - xs.length)*aR u:=by rw[<-Nat.add_mul];congr 1;omega
  rw[au6 (by rw[ak,e];omega),<-V,ak,e]
  congr 1
  omega
def g7.nil (u:bB):g7 I w u [] []:=fun i x hx=>by simp at hx
def Cw {ρ:Nat->bq} {F:Nat->Prop} {p:bq} {e:aI0} {u:bB} {xs:List (aa u)} (h:Holds ρ I F w p (.row e u xs)) {I':Nat->Prop} (a1: ∀b,I b->I' b) (bj: ∀b,F b->I' b):cw I' w (.cc u) xs (fun _=>some p.eS):=by
 obtain⟨E,G,cs,ah,aW⟩:=h;have Cv:=ah;rcases ah.2 with⟨az,aw⟩ |⟨g,cap,dm,az,_,aU,ak,ay,_,_⟩
 .exact⟨none,0,by rw[az,aw],aD1,aD2,fun h=>as3 h aD1⟩
 .refine⟨some ⟨g,0,none⟩,cap,by rw[az],ak,ay,fun _=>⟨g,0,rfl,bj g ((E g).2 (by rw[az];rfl)),fun i x hx=>?_⟩⟩;refine cw.mono (fun b O=>⟨a1 b O,rfl⟩) u x _ _ (fun j v V=>?_) (aW i x hx);have:=Cv.cells (g:=g) (by rw[az];rfl) _ v V
  rwa[qt] at this
end
section
variable {P:aH6} {aV:dt} {N:Nat} {ids:aH0} {o:Oper} {K:aZ} {B:aA} {k:aS->fE->Prop} {C:fv} {ρ:Nat->bq} {F:Nat->Nat->Prop} {w w':aH5}
def FL {b:Nat} {cs:aJ3} {S:Nat->Prop} (av:S b):cZ S w (w.setRow b cs):=
 ⟨rfl,rfl,rfl,by simp[World.setRow],fun j _ hn=>setRow_other w b j cs (fun e=>hn (by rw[e];exact av))⟩
def Qi {p q:Option Prop} (h:uQ (Jo p q)):uQ p/\uQ q:=by cases p <;>cases q <;>first |exact⟨trivial,trivial⟩ |exact⟨trivial,h⟩ |exact⟨h,trivial⟩ |exact h
def rz {α:Type} (u:bB) (f:List bE->Option (α×List bE×Option Prop)) (g:α->aa u):Prop:= ∀(ρ:Nat->bq) (I:Nat->Prop) (w:aH5) (l:List bE) (x:α) (l':List bE) (p:Option Prop),f l=some (x,l',p)->uQ p-> ∀aF,cg ρ I w l aF->
 ∃oo tU,aF=oo++tU/\oo.length=aR u/\cw I w u (g x) (fun j=>oo[j]?)/\cg ρ I w l' tU/\ ∀v∈oo,v.oneCell'=true
def ZM (k:IntKind):rz (.int k) (Jp k) (fun x=>x):=by
 intro ρ I w l x l' p h ae aF az;unfold Jp at h
 split at h
 .rename_i ea n l
  split at h
  .rename_i Z;have:=ol Z;subst this;simp only[as9,ay8] at h;obtain⟨rfl,rfl,rfl⟩:=h;obtain⟨v,r,rfl,E,G⟩:=az;have E:v= .int ea n:=E;subst E;exact⟨[.int ea n],r,rfl,rfl,rfl,G,by simp[Value.oneCell']⟩
  .cases h
 .cases h
def ZN:rz .u8 Jq (fun x=>x):=by
 intro ρ I w l x l' p h ae aF az;unfold Jq at h
 split at h
 .rename_i ea n l
  split at h
  .rename_i Z;have:=ol Z;subst this;simp only[as9,ay8] at h;obtain⟨rfl,rfl,rfl⟩:=h;obtain⟨v,r,rfl,E,G⟩:=az;have E:v= .int .u8 n:=E;subst E;have ae:0<=n/\n < 256:=ae;refine⟨[.int .u8 n],r,rfl,rfl,?_,G,by simp[Value.oneCell']⟩;show some (Value.int .u8 n)=some (Value.int .u8 ((UInt8.ofNat n.toNat).toNat:Int))
   congr 2
   rw[UInt8.toNat_ofNat'];omega
  .cases h
 .cases h
def ZO:rz .bool Jr (fun x=>x):=by
 intro ρ I w l x l' p h ae aF az;unfold Jr at h
 split at h
 all_goals first |(cases h;done) |skip
 all_goals
  rename_i b l;simp only[as9,ay8] at h;obtain⟨rfl,rfl,rfl⟩:=h;obtain⟨v,r,rfl,E,G⟩:=az;have E:v= .bool b:=E;subst E;exact⟨[.bool b],r,rfl,rfl,rfl,G,by simp[Value.oneCell']⟩
def ZP:rz .str Js (fun x=>x):=by
 intro ρ I w l x l' p h ae aF az;unfold Js at h
 split at h
 .rename_i s l;simp only[as9,ay8] at h;obtain⟨rfl,rfl,rfl⟩:=h;obtain⟨v,r,rfl,E,G⟩:=az;have E:v= .string ⟨s.toArray⟩:=E;subst E;exact⟨[_],r,rfl,rfl,rfl,G,by simp[Value.oneCell']⟩
 .cases h
def ZQ:rz .dz Ju (fun x=>x):=by
 intro ρ I w l x l' p h ae aF az;unfold Ju at h
 split at h
 .rename_i s l;simp only[as9,ay8] at h;obtain⟨rfl,rfl,rfl⟩:=h;obtain⟨v,r,rfl,E,G⟩:=az;have E:v=rp s:=E;subst E;refine⟨[_],r,rfl,rfl,rfl,G,?_⟩;rcases s with _ |⟨b,n,c⟩ <;>simp[Value.oneCell',rp]
 .rename_i l;simp only[as9,ay8] at h;obtain⟨rfl,rfl,rfl⟩:=h;obtain⟨v,r,rfl,E,G⟩:=az;have E:v= .slice none 0 0:=E;subst E;exact⟨[_],r,rfl,rfl,rfl,G,by simp[Value.oneCell']⟩
 .cases h
def Qj {ρ:Nat->bq} {I:Nat->Prop} {w:aH5}: ∀{m:List lo} {bs:aH0} {aF:aH4},Cl m=some bs->h7 ρ I w m aF->aF=rq bs
 | [],bs,aF,h,az=>by
  unfold Cl at h;injection h with h
  rw[<-h];exact az
 |c::m,bs,aF,h,az=>by
  unfold Cl at h
  split at h
  .rename_i e;cases e
  .rename_i b l e;injection e with af ao
   subst af ao
   split at h
   .rename_i r ax;injection h with h
    subst h;obtain⟨v,t,e,E,G⟩:=az;have E:v= .pointer (some ⟨b,0,none⟩):=E;rw[e,E,Qj ax G];rfl
   .cases h
  .cases h
def ZR:rz .fn Jv (fun x=>x):=by
 intro ρ I w l x l' p h ae aF az;unfold Jv at h
 split at h
 .rename_i s l;simp only[as9,ay8] at h;obtain⟨rfl,rfl,rfl⟩:=h;obtain⟨v,r,rfl,E,G⟩:=az;have E:v=mV s:=E;subst E;exact⟨[_],r,rfl,rfl,rfl,G,by simp[Value.oneCell',mV]⟩
 .rename_i f m l
  split at h
  .rename_i bs JY;simp only[as9,ay8] at h;obtain⟨rfl,rfl,rfl⟩:=h;obtain⟨v,r,rfl,⟨us,e,J⟩,G⟩:=az;have uZ:=Qj JY J;subst e uZ;exact⟨[_],r,rfl,rfl,rfl,G,by simp[Value.oneCell']⟩
  .cases h
 .cases h
def ZS:rz .aM Jt (fun x=>x):=by
 intro ρ I w l x l' p h ae aF az;unfold Jt at h
 split at h
 .rename_i s l;simp only[as9,ay8] at h;obtain⟨rfl,rfl,rfl⟩:=h;obtain⟨v,r,rfl,E,G⟩:=az;have E:v= .pointer (oe s):=E;subst E;exact⟨[_],r,rfl,rfl,rfl,G,by simp[Value.oneCell']⟩
 .rename_i l;simp only[as9,ay8] at h;obtain⟨rfl,rfl,rfl⟩:=h;obtain⟨v,r,rfl,E,G⟩:=az;have E:v= .pointer none:=E;subst E;exact⟨[_],r,rfl,rfl,rfl,G,by simp[Value.oneCell']⟩
 .cases h
def ZT (u:bB):rz (.cc u) (Jw u) (fun x=>x):=by
 intro ρ I w l x l' p h ae aF az;unfold Jw at h
 split at h
 .rename_i l;simp only[as9,ay8] at h;obtain⟨rfl,rfl,rfl⟩:=h;obtain⟨v,r,rfl,E,G⟩:=az;have E:v= .slice none 0 0:=E;subst E;exact⟨[_],r,rfl,rfl,⟨none,0,rfl,as2 _,aD2,fun h=>as3 h aD3⟩,G,by simp[Value.oneCell']⟩
 .rename_i v xs l
  split at h
  .rename_i U _;subst U;simp only[as9,ay8] at h;obtain⟨rfl,rfl,rfl⟩:=h;obtain⟨v,r,rfl,E,G⟩:=az;have E:cw I w (.cc _) xs (fun _=>some v):=E;refine⟨[v],r,rfl,rfl,?_,G,?_⟩
   .obtain⟨A,cap,e,ah⟩:=E;exact⟨A,cap,e,ah⟩
   .obtain⟨A,cap,e,ah⟩:=E;injection e with e
    subst e;simp[Value.oneCell']
  .cases h
 .cases h
def ZU {u v:bB} (E:rz u (oh u) (fun x=>x)) (G:rz v (oh v) (fun x=>x)):rz (.bU u v) (oh (.bU u v)) (fun x=>x):=by
 intro ρ I w l x l' p h ae aF az;unfold oh at h
 cases af:oh u l with
 |none=>simp only[af] at h;cases h
 |some t=>
  obtain⟨y,jn,c1⟩:=t;simp only[af] at h
  cases ao:oh v jn with
  |none=>simp only[ao] at h;cases h
  |some t=>
   obtain⟨aB,g',cy⟩:=t;simp only[ao,as9,ay8] at h;obtain⟨rfl,rfl,rfl⟩:=h;obtain⟨cB,cH⟩:=Qi ae;obtain⟨oo,r1,rfl,g1,g2,cK,jW⟩:=E ρ I w l y jn c1 af cB aF az;obtain⟨tU,r2,rfl,b',cS,en,e0⟩:=G ρ I w jn aB _ cy ao cH r1 cK;refine⟨oo++tU,r2,aD3,by simp[aR,g1,b'],⟨?_,?_⟩,en,fun x hx=>(au4.1 hx).elim (jW x) (e0 x)⟩
   .refine cw.mk u y _ (cw.wf u y _ g2) fun j V=>?_
    obtain⟨x,hx,H⟩:=cw.cell u y _ j g2 V;exact⟨x,by rw[au7 aD1];exact hx,H⟩
   .refine cw.mono (cp.refl _ _) v aB _ _ (fun j x V=>?_) cS;show(oo++tU)[aR u+j]? =some x;rw[au6 aD1,show aR u+j - oo.length=j by omega];exact V
def Ah: ∀u:bB,rz u (oh u) (fun x=>x)
 | .int k=>ZM k
 | .u8=>ZN
 | .bool=>ZO
 | .str=>ZP
 | .aM=>ZS
 | .dz=>ZQ
 | .fn=>ZR
 | .cc u=>ZT u
 | .bU u v=>ZU (Ah u) (Ah v)
 | .arr n u=>fun ρ I w l x l' p h=>by unfold oh at h;cases h
def JZ {ρ:Nat->bq} {I:Nat->Prop} {w:aH5} (u:bB): ∀(n:Nat) (l:List bE) (xs:List (aa u)) (p:Option Prop),xU u n l=some (xs,p)->uQ p-> ∀aF,cg ρ I w l aF->xs.length=n/\aF.length=n*aR u/\g7 I w u xs aF/\ ∀v∈aF,v.oneCell'=true
 |0,l,xs,p,h,ae,aF,az=>by
  unfold xU at h
  split at h
  .simp only[as9,ay8] at h;obtain⟨rfl,rfl⟩:=h;rw[show aF=[] from az];exact⟨rfl,aD3,g7.nil u,aD3⟩
  .cases h
  .rename_i e;cases e
 |n+1,l,xs,p,h,ae,aF,az=>by
  unfold xU at h
  cases af:oh u l with
  |none=>simp only[af] at h;cases h
  |some t=>
   obtain⟨y,jn,c1⟩:=t;simp only[af] at h
   cases ao:xU u n jn with
   |none=>simp only[ao] at h;cases h
   |some t=>
    obtain⟨ys,cy⟩:=t;simp only[ao,as9,ay8] at h;obtain⟨rfl,rfl⟩:=h;obtain⟨cB,cH⟩:=Qi ae;obtain⟨oo,r1,rfl,g1,g2,cK,jW⟩:=Ah u ρ I w l y jn c1 af cB aF az;obtain⟨b',cS,en,e0⟩:=JZ u n jn ys cy ao cH r1 cK;refine⟨by simp[b'],by simp[g1,cS,az3,Nat.add_comm],?_,fun x hx=>(au4.1 hx).elim (jW x) (e0 x)⟩
    have:g7 I w u [y] oo:=fun i x hx=>by
     match i with
     |0=>
      simp only[at9,as9] at hx;subst hx;exact cw.mono (cp.refl _ _) u y _ _ (fun j v V=>by simpa using V) g2
     |i+1=>simp at hx
    exact g7.uX this en (by simpa using g1)
def ZV (bl:eq P aV) {T:aI0} {x v:aH8} (ag:o.op= .store T x v) (h:match aV.find T with
  |some ti=>match a7 K x with
   | .c (.one (.ptr c o))=>match aj B c with
    |some (.cells l)=>match wy (a7 K v) with
     |some cs=>match Nat.beq cs.length ti.size,Nat.ble (o+cs.length) l.length with
      |true,true=>pQ (Ck l o cs) fun l=>k .undef ⟨[c],[],[(c,some (.cells l))]⟩
      |_,_=>False
     |none=>False
    |_=>False
   | .c (.one (.fW c s i o))=>match aj B c with
    |some (.row e u xs)=>match Nat.beq (aR u) 1,Nat.beq s 1,Nat.beq o 0,Nat.beq ti.size 1,a7 K v with
     |true,true,true,true,.c (.one pR)=>match oh u [pR] with
      |some (y,[],p)=>(uQ p/\i < xs.length)/\k .undef ⟨[c],[],[(c,some (.row e u (xs.set i y)))]⟩
      |_=>False
     |_,_,_,_,_=>False
    |_=>False
   |_=>False
  |none=>False):cN P N ids o K B k:=by
 have m1:x∈o.op.operands:=aD8
 have m2:v∈o.op.operands:=aD8
 split at h
 .rename_i ti gT;obtain⟨di,d,bx⟩:=bl.at_ gT
  split at h
  .rename_i c p J
   split at h
   .rename_i l ak
    split at h
    .rename_i cs fG
     split at h
     .rename_i E G;have E:=at1 E;have G:=aA1 G;rw[z1] at h;refine cN.of h <| bD.h8 ak fun K' B' af C ρ F a w al av gz=>?_
      obtain⟨bj,aF,e8,O,H⟩:=al.holds c _ gz;have az:=av.get v;rw[af v m2] at az;obtain⟨us,ZW,FM,ZX⟩:=JW fG az;have bX:=cg.length _ _ FM;have Qk:=cg.length _ _ H;refine⟨_,Ct ag (av.ptr ((af x m1).trans J)) ZW bx.km (by rw[bX,E];exact bx.size) O aD1 ZX,FL ((bj _).2 rfl),fun I U=>⟨bj,_,e8,setRow_heap w _ _ _ e8 _ O,?_⟩⟩;exact cg.splice (cg.mono U _ _ (fun _ _=>rfl) H) (cg.mono U _ _ (fun _ _=>rfl) FM)
     .exact h.elim
    .exact h.elim
   .exact h.elim
  .rename_i c s i p J
   split at h
   .rename_i e u xs ak
    split at h
    .rename_i pR jc bF u0 u1 wC
     split at h
     .rename_i y q ZY;have jc:=at1 jc;have bF:=at1 bF;have u0:=at1 u0;subst bF u0;obtain⟨⟨aQ,aE⟩,h⟩:=h;refine cN.of h <| bD.h8 ak fun K' B' af C ρ F a w al av gz=>?_
      obtain⟨bj,ko,cs,dN,kp⟩:=al.holds c _ gz;have az:=av.get v;rw[af v m2,wC] at az;have J0:=av.fW ((af x m1).trans J);obtain⟨oo,tU,c7,g1,g2,cK,jW⟩:=Ah u ρ _ w [pR] y [] q ZY aQ [a.eval v] ⟨_,[],rfl,az,rfl⟩;have bX:oo.length=1:=by rw[g1,jc]
      obtain rfl:oo=[a.eval v]:=by
       match oo,bX with
       | [aB],_=>simp at c7;rw[c7.1]
      have sH:=jW (a.eval v) aD3
      have xP:(a.eval v).cells=List.toArray [a.eval v]:=by
       cases hx:a.eval v <;>first |rfl |(rw[hx] at sH;simp[Value.oneCell'] at sH)
      have Ql:=dN;obtain⟨qv,dN⟩:=dN;rcases dN with⟨_,aw⟩ |⟨g,cap,dm,pe,_,aU,x4,ay,cz,cm⟩
      .omega
      .have Ai:g=(ρ c).bm:=ko g (by rw[pe];rfl);subst Ai;rw[jc,Nat.mul_one] at cz cm qv;have u2:w.heap[(ρ c).bm]? =some (.cells (List.toArray dm.toList) e (0,0)):=by simpa using aU
       have lI:i*1+0+ [a.eval v].length<=dm.toList.length:=aE3
       have u3:=Ct (P:=P) (ev:=a.eval) (w:=w) ag J0 xP bx.km (by rw[bx.size,at1 u1];rfl) u2 lI (by simpa using sH);refine⟨_,u3,FL ((bj _).2 (by rw[pe];rfl)),fun I U=>?_⟩;have m5:=setRow_heap w (ρ c).bm dm (List.take (i*1+0) dm.toList++[a.eval v]++List.drop (i*1+0+ [a.eval v].length) dm.toList).toArray e (0,0) aU
       have hb:(List.take (i*1+0) dm.toList++[a.eval v]++List.drop (i*1+0+ [a.eval v].length) dm.toList)=dm.toList.set i (a.eval v):=by
        rw[List.set_eq_take_append_cons_drop,vj aE3];simp
       rw[hb] at m5;refine⟨bj,ko,cs.set i (a.eval v),⟨by simp[qv,jc],.inr ⟨(ρ c).bm,cap,_,by rw[pe];simp,at2 _,by rw[hb];exact m5,by simpa using x4,ay,by simp[cz,jc],?_⟩⟩,fun j aB aN=>?_⟩
       .rw[<-cm];simp[jc,List.take_set]
       .by_cases lw:i=j
        .subst lw;rw[ax8 aE] at aN;injection aN with aN
         subst aN;refine cw.mono U u y _ _ (fun q x hx=>?_) g2
         match q with
         |0=>
          rw[jc,Nat.mul_one,az5,ax8 aD1];simpa using hx
         |q+1=>simp at hx
        .rw[ax1 lw] at aN;have H:=kp j aB aN;refine cw.mk u aB _ (cw.wf u aB _ H) fun q aQ=>?_
         obtain⟨x,hx,m6⟩:=cw.cell u aB _ q H aQ;refine⟨x,?_,gY.mono U _ _ m6⟩;rw[jc] at aQ⊢;rw[jc] at hx;rw[ax1 aD1];exact hx
     .exact h.elim
    .exact h.elim
   .exact h.elim
  .exact h.elim
 .exact h.elim
end
end
section
section
variable {P:aH6} {aV:dt} {N:Nat} {ids:aH0} {o:Oper} {K:aZ} {B:aA} {k:aS->fE->Prop}
def Qm {ρ:Nat->bq} {I:Nat->Prop} {w:aH5} {v:aI3} {s:bE} (h:JP v s=true):d' ρ I w s v/\v.oneCell'=true:=by
 unfold JP at h
 split at h
 .rename_i k n ea n';simp only[as1,av6] at h;have:=ol h.1;subst this;rw[h.2];exact⟨rfl,rfl⟩
 .rename_i b ej;rw[show b=ej by simpa using h];exact⟨rfl,rfl⟩
 .rename_i s l;have h:s.data.toList=l:=aE0
  subst h;exact⟨by simp[d',gY],rfl⟩
 .exact⟨rfl,rfl⟩
 .exact⟨rfl,rfl⟩
 .exact⟨rfl,rfl⟩
 .exact⟨rfl,rfl⟩
 .exact⟨rfl,rfl⟩
 .cases h
def wD {ρ:Nat->bq} {I:Nat->Prop} {w:aH5}: ∀(aF:aH4) (l:List bE),tR aF l=true->cg ρ I w l aF/\ ∀u∈aF,u.oneCell'=true
 | [],[],_=>⟨rfl,aD3⟩
 |v::aF,s::l,h=>by
  simp only[tR,as1] at h;obtain⟨E,G⟩:=Qm (ρ:=ρ) (I:=I) (w:=w) h.1;obtain⟨ah,aW⟩:=wD (ρ:=ρ) (I:=I) (w:=w) aF l h.2;exact⟨⟨v,aF,rfl,E,ah⟩,fun u a6=>(as8.1 a6).elim (fun e=>e▸G) (aW u)⟩
 | [],_::_,h=>by simp[tR] at h
 |_::_,[],h=>by simp[tR] at h
def Qn {c d p:Nat} (h:aS.has d (.c (.one (.ptr c p)))=true):d=c:=(at1 h).symm
def Cx {c d:Nat} (h:aS.has d (.c (.one (.own c)))=true):d=c:=(at1 h).symm
def ZZ (bl:eq P aV) {T:aI0} (ag:o.op= .alloc T) (h:match aV.find T,o.dst with
  |some ti,some d=>hk ids K B d=true/\k (.c (.one (.ptr d 0))) ⟨[],[d],[(d,some (.cells ti.zero))]⟩
  |_,_=>False):cN P N ids o K B k:=by
 split at h
 .rename_i ti d gT H;obtain⟨i,ds,bx⟩:=bl.at_ gT;obtain⟨aB,aN,m7⟩:=bx.zero;refine cN.bb h.2 h.1 <| bD.make (fun d h=>Qn h) fun K' B' E G C ρ F a w al av hn=>?_
  refine⟨_,_,⟨w.heap.size,none,0,0⟩,fun b=>b=w.heap.size,(by
   simp[execOp,ag,Instr.alloc,zeroValue,typeInfo,bx.km,aN,newVar,newRow];rfl),tL w _,fun b O=>by subst O;exact⟨as2 _,aD3⟩,fun I U O=>⟨⟨fun b=>Iff.rfl,aB.cells.toList,T,Jd _ rfl,(wD _ _ m7).1⟩,?_⟩⟩
  simp only[cA,gS,d',dh]
 .exact h.elim
def Z0 (bl:eq P aV) {T:aI0} {x:aH8} (ag:o.op= .box T x) (h:match aV.find T,o.dst,wy (a7 K x) with
  |some ti,some d,some l=>match Nat.beq l.length ti.size with
   |true=>hk ids K B d=true/\k (.c (.one (.ptr d 0))) ⟨[],[d],[(d,some (.cells l))]⟩
   |false=>False
  |_,_,_=>False):cN P N ids o K B k:=by
 have m1:x∈o.op.operands:=aD8
 split at h
 .rename_i ti d l gT H ak
  split at h
  .refine cN.bb h.2 h.1 <| bD.make (fun d h=>Qn h) fun K' B' E G C ρ F a w al av hn=>?_
   have az:=av.get x;rw[E x m1] at az;obtain⟨aF,af,ao,bo⟩:=JW ak az
   refine⟨_,_,⟨w.heap.size,none,0,0⟩,fun b=>b=w.heap.size,(by
    simp[execOp,ag,Instr.box,newVar,newRow,af];rfl),tL w _,fun b O=>by subst O;exact⟨as2 _,aD3⟩,fun I U O=>⟨⟨fun b=>Iff.rfl,aF,T,Jd _ rfl,?_⟩,?_⟩⟩
   .refine cg.mono U l aF (fun c J=>?_) ao;refine du _ _ fun e=>?_
    subst e
    have bd:(a7 K x).has c=true:=by
     unfold wy at ak
     split at ak
     .rename_i hx
      split at ak
      .injection ak with ak;subst ak;rw[hx];simpa[aS.has,d0.has,mW] using J
      .cases ak
     .rename_i hx
      split at ak
      .injection ak with ak;subst ak;rw[hx];simpa[aS.has,d0.has] using J
      .cases ak
     .cases ak
    rw[<-E x m1] at bd
    cases x with
    |tmp t=>have:=hn t;simp only[a7] at bd;rw[this] at bd;cases bd
    |const v=>
     have kq: ∀u:Value,(wx u).has c=false:=fun u=>by unfold wx;split <;>rfl
     have dW: ∀us:List Value,mW c (us.map wx)=false:=fun us=>by induction us with
      |nil=>rfl
      |cons u us bn=>simp[mW,kq,bn]
     simp only[a7] at bd;unfold Fe at bd
     split at bd <;>simp[aS.has,d0.has,kq,dW] at bd
    |func f=>simp[a7,aS.has,d0.has,bE.has,mt] at bd
    |global g=>simp[a7,aS.has,d0.has,bE.has] at bd
   .simp only[cA,gS,d',dh]
  .exact h.elim
 .exact h.elim
def Qo: ∀(us:aH4) (off j:Nat) (p m s:aH4),p.length=off+j->m.length=us.length->
  (us.zipIdx j).foldl (fun cs p=>cs.setIfInBounds (off+p.2) p.1) (p++m++s).toArray=(p++us++s).toArray
 | [],off,j,p,m,s,ae,ay=>by
  rw[show m=[] from aw8 (by simpa using ay)];simp
 |u::us,off,j,p,[],s,ae,ay=>by simp at ay
 |u::us,off,j,p,x::m,s,ae,ay=>by
  simp only[List.zipIdx_cons,List.foldl_cons]
  have e:(p++x::m++s).toArray.setIfInBounds (off+j) u=((p++[u])++m++s).toArray:=by
   rw[List.setIfInBounds_toArray,<-ae];simp
  rw[e,Qo us off (j+1) (p++[u]) m s aE3 (by simpa using ay)];simp
def Z1 (us aF:aH4) (off:Nat) (h:off+us.length<=aF.length):
  (us.zipIdx).foldl (fun cs p=>cs.setIfInBounds (off+p.2) p.1) aF.toArray=(aF.take off++us++aF.drop (off+us.length)).toArray:=by
 have e:aF=aF.take off++(aF.drop off).take us.length++aF.drop (off+us.length):=by
  rw[aw1,<-List.drop_drop,List.take_append_drop,List.take_append_drop]
 have:=Qo us off 0 (aF.take off) ((aF.drop off).take us.length) (aF.drop (off+us.length)) aE3 aE3;rw[<-e] at this;exact this
def J1 {K':aZ} {ρ:Nat->bq} {I:Nat->Prop} {a:Act} {w:aH5} (av:eF K' ρ I a w) {mZ place:Nat->Option (Nat×Nat)} (hz: ∀i d n,mZ i=some (d,n)->place i=some (d,n)):
  ∀(bI:List (Nat×Operand)) (l l':List bE) (aF:aH4),(∀p∈bI,a7 K' p.2=a7 K p.2)->wz K mZ bI l=some l'->cg ρ I w l aF->(∀u∈aF,u.oneCell'=true)->
   ∃sJ,Instr.fill place (List.toArray aF) (bI.map fun p=>(p.1,a.eval p.2))=some (List.toArray sJ)/\cg ρ I w l' sJ/\ ∀u∈sJ,u.oneCell'=true
 | [],l,l',aF,_,h,az,E=>by
  simp only[wz,as9] at h;subst h;exact⟨aF,rfl,az,E⟩
 |(i,x)::bI,l,l',aF,cE,h,az,E=>by
  unfold wz at h
  split at h
  .rename_i d n cs H fG
   split at h
   .rename_i af ao;have af:=at1 af;have ao:=aA1 ao;have hx:=av.get x;rw[cE (i,x) aD3] at hx;obtain⟨us,g1,g2,cK⟩:=JW fG hx;have cB:=cg.length _ _ g2;have cH:=cg.length _ _ az
    obtain⟨sJ,b',cS,en⟩:=J1 av hz bI _ l' (aF.take d++us++aF.drop (d+us.length)) (fun p ae=>cE p (by simp[ae])) h (cg.splice az g2) (fun u a6=>by
     simp only[au4] at a6;rcases a6 with(a6 |a6) |a6
     .exact E u (List.mem_of_mem_take a6)
     .exact cK u a6
     .exact E u (List.mem_of_mem_drop a6))
    refine⟨sJ,?_,cS,en⟩;rw[<-b'];simp only[au1,Instr.fill,hz i d n H,g1];have hf:=Z1 us aF d aD1;rw[mu aE3]
    congr 1
    rw[<-hf,<-Array.foldl_toList,Array.toList_zipIdx]
   .cases h
  .cases h
def Z2 {fs:List Field} {l:aJ7} (h:rx P fs l=true):fs.mapM (fun f=>(P.info? f.type).map fun i=>(f.offset,i.size))=some l:=by
 induction fs generalizing l with
 |nil=>cases l with
  |nil=>rfl
  |cons _ _=>simp[rx] at h
 |cons f fs bn=>cases l with
  |nil=>simp[rx] at h
  |cons p l=>
   obtain⟨d,n⟩:=p;simp only[rx,as1] at h;obtain⟨⟨⟨E,G⟩,_⟩,aW⟩:=h
   split at G
   .rename_i i aE;have G:=at1 G;have E:=at1 E;simp[List.mapM_cons,aE,bn aW,E,G]
   .cases G
def Z3 (bl:eq P aV) {T:aI0} {bI:Array (Nat×Operand)} (ag:o.op= .build T bI) (h:match aV.find T with
  |some ti=>match ti.kd,wz K (fun f=>ti.mZ[f]?) bI.toList ti.zero with
   | .st,some l=>pQ l fun l=>k (.c (.agg l)) bK
   |_,_=>False
  |none=>False):cN P N ids o K B k:=by
 split at h
 .rename_i ti gT;obtain⟨i,d,bx⟩:=bl.at_ gT;obtain⟨aB,aN,m7⟩:=bx.zero
  split at h
  .rename_i l Z ak;rw[z1] at h;refine cN.of h <| bD.val fun K' B' E G C ρ F a w al av=>?_
   obtain⟨k2,rA⟩:=wD (ρ:=ρ) (I:=b5 C B' F w) (w:=w) _ _ m7;obtain⟨sJ,eW,e9,f3⟩:=J1 (K:=K) av (mZ:=fun f=>ti.mZ[f]?) (place:=fun f=>ti.mZ[f]?) (fun i d n aE=>aE) bI.toList _ _ _ (fun p ae=>E p.2 (by rw[ag];simp only[Op.operands];simpa using⟨p.1,by simpa using ae⟩)) ak k2 rA;refine⟨.agg (List.toArray sJ),?_,sJ,rfl,e9⟩
   have Z4:P.built T (bI.toList.map fun p=>(p.1,a.eval p.2))=some (List.toArray sJ):=by
    unfold Program.built;rw[bx.km,bx.om];obtain⟨fs,_,tV⟩:=bx.st Z;have:=Z2 (bx.mZ fs tV);subst tV;simp only[aN,this];simpa using eW
   unfold execOp;simp only[ag,aw5,run_build w T _ _ (show P.built T ((bI.map fun p=>(p.1,a.eval p.2)).toList)=_ by simpa using Z4),au5];rfl
  .exact h.elim
 .exact h.elim
end
end
section
section
variable {P:aH6} {aV:dt} {N:Nat} {ids:aH0} {o:Oper} {K:aZ} {B:aA} {k:aS->fE->Prop}
def pS (bl:eq P aV) {T e:Nat} {te:cd} (h:elemOf aV T=some (e,te)):P.underlying T=some (.slice e)/\ ∃i d,mx P e te i d:=by
 unfold elemOf at h
 split at h
 .rename_i ti gT
  split at h
  .rename_i b9 Z
   split at h
   .rename_i arh wE;injection h with h
    injection h with E G
    subst E G;obtain⟨_,_,bx⟩:=bl.at_ gT;exact⟨bx.cc Z,bl.at_ wE⟩
   .cases h
  .cases h
 .cases h
def FN (bl:eq P aV) {T:Nat} (h:xY aV T=true):P.underlying T=some .string:=by
 unfold xY at h
 split at h
 .rename_i ti gT
  split at h
  .rename_i Z;obtain⟨_,_,bx⟩:=bl.at_ gT;exact bx.str Z
  .cases h
 .cases h
def x5 (bl:eq P aV) {T:Nat} (h:rv aV T=true):P.underlying T=some (.int .u8)/\ ∃ti i d,mx P T ti i d/\ti.zero=[.d (.int .u8 0)]/\ti.size=1/\ti.bytes=1:=by
 unfold rv at h
 split at h
 .rename_i ti gT
  split at h
  .rename_i Z aN au O;obtain⟨i,d,bx⟩:=bl.at_ gT;exact⟨bx.int Z,ti,i,d,bx,aN,au,O⟩
  .cases h
 .cases h
def sK (n:Nat) (l:aH4):List Value:=match n with
 |0=>[]
 |n+1=>l++sK n l
def Z5 (n:Nat) (l:aH4):(sK n l).length=n*l.length:=by
 induction n with
 |zero=>simp[sK]
 |succ n bn=>simp[sK,bn,az3,Nat.add_comm]
def Z6 (n:Nat) (l:aH4): ∀j,j < n*l.length->(sK n l)[j]? =l[j % l.length]? :=by
 induction n with
 |zero=>intro j V;simp at V
 |succ n bn=>
  intro j V;unfold sK
  by_cases h:j < l.length
  .rw[au7 h,Nat.mod_eq_of_lt h]
  .rw[au6 aD1,bn _ (by rw[az3] at V;omega),Nat.mod_eq_sub_mod (a:=j) aD1]
def Z7 {ρ:Nat->bq} {I:Nat->Prop} {w:aH5} (n:Nat) {l:List bE} {aF:aH4} (h:cg ρ I w l aF):cg ρ I w (Fp n l) (sK n aF):=by
 induction n with
 |zero=>rfl
 |succ n bn=>exact cg.uX _ _ _ _ h bn
def Z8 {n:Nat} {l:aH4} {v:aI3} (h:v∈sK n l):v∈l:=by
 induction n with
 |zero=>simp[sK] at h
 |succ n bn=>exact(au4.1 h).elim id bn
def Z9 (aB:aJ3) (n:Nat) (aN:0 < aB.size):(Array.range (n*aB.size)).map (aB[· % aB.size]!)=(sK n aB.toList).toArray:=by
 apply Array.ext';simp only[Array.toList_map,List.toList_toArray];apply aA3;intro j
 by_cases V:j < n*aB.size
 .rw[Z6 n aB.toList j aF1];simp only[Array.length_toList];have ay:j % aB.size < aB.size:=Nat.mod_lt _ aN;simp[V,ay]
 .rw[aA5 aE3,aA5 (by rw[Z5];simp;omega)]
def Z' {w:aH5} {l:aH4} {e:aI0} {j:Nat} {v:aI3} (h:l[j]? =some v):(w.alloc (.cells (List.toArray l) e)).cell? ⟨w.heap.size,j,none⟩=some v:=
 pd (T:=e) (heap_alloc_new w _) h
def aaa {I:Nat->Prop} {w:aH5} {u:bB} {xs:List (aa u)} {cs:aH4} {e:aI0} {cap:Nat} (ax:g7 I (w.alloc (.cells (List.toArray cs) e)) u xs cs) (a1:I w.heap.size) (J:xs.length<=cap) (ay:cap<=maxLen):
  cw I (w.alloc (.cells (List.toArray cs) e)) (.cc u) xs (fun _=>some (.slice (some ⟨w.heap.size,0,none⟩) xs.length cap)):=
 ⟨_,cap,rfl,J,ay,fun _=>⟨_,0,rfl,a1,fun i x hx=>cw.mono (cp.refl _ _) u x _ _ (fun j v V=>by
  simp only[aw9];exact Z' V) (ax i x hx)⟩⟩
def FO (w:aH5) (e s n:Nat) (cs:aH4) (ak:cs.length=n*s) (ay:n<=maxLen):(w.alloc (.cells (List.toArray cs) e)).ownsRow 0 e s (.slice (some ⟨w.heap.size,0,none⟩) n n) n cs:=
 ⟨ak,.inr ⟨_,n,_,rfl,at2 _,heap_alloc_new w _,as2 _,ay,by simpa using ak,by simp[<-ak]⟩⟩
def aab (bl:eq P aV) {T:aI0} {bI:Array (Nat×Operand)} (ag:o.op= .buildSlice T 0 bI) (h:match elemOf aV T,o.dst with
  |some (e,te),some d=>match te.u with
   |some u=>hk ids K B d=true/\k (.c (.one (.own d))) ⟨[],[d],[(d,some (.row e u []))]⟩
   |none=>False
  |_,_=>False) (l3:bI.toList=[]):cN P N ids o K B k:=by
 split at h
 .rename_i e te d U H;obtain⟨a6,di,ds,bx⟩:=pS bl U
  split at h
  .rename_i u wE;refine cN.bb h.2 h.1 <| bD.make (fun d h=>Cx h) fun K' B' E G C ρ F a w al av hn=>?_
   have aac:bI= #[]:=Array.toList_eq_nil_iff.1 l3;refine⟨.slice (some ⟨w.heap.size,0,none⟩) 0 0,w.alloc (.cells #[] e),⟨w.heap.size,some ⟨w.heap.size,0,none⟩,0,0⟩,fun b=>b=w.heap.size,?_,tL w _,fun b O=>by subst O;exact⟨as2 _,aD3⟩,fun I U O=>⟨⟨?_,?_,[],?_,g7.nil u⟩,?_⟩⟩
   .subst aac;simp[execOp,ag,Instr.buildSlice,run_underlying a6,sizeOf,typeInfo,bx.km,Instr.fill,newRow];rw[show(Array.range 0)= #[] from rfl];simp
   .intro b;simp[bq.eS,Value.ownBlock,eq_comm]
   .intro b O;simp[bq.eS,Value.ownBlock] at O;exact O.symm
   .exact FO w e (aR u) 0 [] aD3 aD2
   .simp only[cA,gS,d',dh,bq.eS]
  .exact h.elim
 .exact h.elim
def aad (bl:eq P aV) {T n:Nat} {bI:Array (Nat×Operand)} (ag:o.op= .buildSlice T n bI) (x6:n≠0) (h:match elemOf aV T with
  |some (_,te)=>match te.u with
   |some u=>match Nat.ble (n*te.size) 1000,wz K (fun i=>some (i*te.size,te.size)) bI.toList (Fp n te.zero) with
    |true,some l=>match xU u n l with
     |some (xs,none)=>k (.c (.one (.d (.bG u xs)))) bK
     |some (xs,some p)=>p/\k (.c (.one (.d (.bG u xs)))) bK
     |none=>n=1/\ ∃y:aa u,(o4 u y/\l=gI u y 0 (aR u))/\k (.c (.one (.d (.bG u [y])))) bK
    |_,_=>False
   |none=>False
  |none=>False):cN P N ids o K B k:=by
 split at h
 .rename_i e te U;obtain⟨a6,di,ds,bx⟩:=pS bl U;obtain⟨aB,aN,m7⟩:=bx.zero
  split at h
  .rename_i u wE
   split at h
   .rename_i l gy ak;have gy:=aA1 gy
    have sL: ∀xs:List (aa u),(∀(ρ:Nat->bq) (I:Nat->Prop) (w:aH5) (aF:aH4),cg ρ I w l aF->xs.length=n/\aF.length=n*aR u/\g7 I w u xs aF)->bD P N ids o K B (.c (.one (.d (.bG u xs)))) bK:=fun xs h9=>bD.new fun K' B' E G C ρ F a w al av=>by
     obtain⟨k2,rA⟩:=wD (ρ:=ρ) (I:=b5 C B' F w) (w:=w) _ _ m7
     have oc:aB.cells.size=di.size:=by
      have E:=cg.length _ _ k2;simp at E;rw[E,bx.JS,bx.size]
     have lz:0 < di.size:=by have:=bx.pos;have:=bx.size;omega
     have sM:aR u=di.size:=(bx.u u wE).trans bx.size.symm
     obtain⟨aF,eW,e9,f3⟩:=J1 (K:=K) av (mZ:=fun i=>some (i*te.size,te.size)) (place:=fun i=>some (i*di.size,di.size)) (fun i d n aE=>by rw[bx.size];exact aE) bI.toList _ _ (sK n aB.cells.toList)
      (fun p ae=>E p.2 (by rw[ag];simp only[Op.operands];simpa using⟨p.1,by simpa using ae⟩)) ak (Z7 n k2) (fun v az=>rA v (Z8 az))
     obtain⟨hA,jd,qz⟩:=h9 ρ _ w aF e9
     have d3:=run_buildSlice (P:=P) w T e n (bI.map fun p=>(p.1,a.eval p.2)) (List.toArray aF) di aB a6 bx.km aN (by rw[bx.size];omega)
      (by rw[Nat.mul_eq_zero];omega) (by rw[<-oc,Z9 aB.cells n aD1,oc];simpa using eW)
     refine⟨.slice (some ⟨w.heap.size,0,none⟩) n n,w.alloc (.cells (List.toArray aF) e),?_,tL w (.cells (List.toArray aF) e),fun I U a1=>?_⟩
     .unfold execOp;simp only[ag,aw5,d3,au5];rfl
     .have:=aaa (e:=e) (cap:=n) (g7.mono (U) qz) (a1 _ (as2 _) aD3) aD1 (by simp only[maxLen];have:=Nat.le_mul_of_pos_right n (show 0 < te.size by have:=bx.pos;omega);omega);rw[hA] at this;exact this
    split at h
    .rename_i xs H
     exact cN.of h <| sL xs fun ρ I w aF az=>by
      obtain⟨hA,jd,qz,_⟩:=JZ u n l xs none H trivial aF az;exact⟨hA,jd,qz⟩
    .rename_i xs p H
     exact cN.of h.2 <| sL xs fun ρ I w aF az=>by
      obtain⟨hA,jd,qz,_⟩:=JZ u n l xs (some p) H h.1 aF az;exact⟨hA,jd,qz⟩
    .obtain⟨hn,y,⟨hw,gz⟩,h⟩:=h;subst hn;refine cN.of h <| sL [y] fun ρ I w aF az=>?_
     subst gz;refine⟨rfl,by rw[cg.length _ _ az,tT,Nat.one_mul],fun i x hx=>?_⟩
     match i with
     |0=>
      simp only[at9,as9] at hx;subst hx;refine cw.mono (cp.refl _ _) u y _ _ (fun j v V=>?_) (Cu hw az);rw[Nat.zero_mul,aw9];exact V
     |i+1=>simp at hx
   .exact h.elim
  .exact h.elim
 .exact h.elim
end
end
section
section
variable {P:aH6} {aV:dt} {N:Nat} {ids:aH0} {o:Oper} {K:aZ} {B:aA} {k:aS->fE->Prop}
def Qp {ev:Operand->Value} {T u4:aI0} {x i:aH8} {b q n c s:Nat} {w:aH5} {m:Int} {di:aI9} (ag:o.op= .indexAddr T x i) (hx:ev x= .slice (some ⟨b,q,none⟩) n c) (aE:ev i= .int .i64 m) (a6:P.underlying T=some (.slice u4)) (qu:P.info? u4=some di) (au:di.size=s)
  (aw:0<=m) (Z:m.toNat < n):(execOp ev o).run P w= .ok (.value (.pointer (some ⟨b,q+m.toNat*s,none⟩))) w:=by
 subst au;have E:m < (n:Int):=aD9
 simp[execOp,ag,hx,aE,Instr.indexAt,asIntOf,run_underlying a6,aw,E,sizeOf,typeInfo,qu,qt]
def aae (bl:eq P aV) {T:aI0} {x i:aH8} (ag:o.op= .indexAddr T x i) (h:match elemOf aV T,a7 K i with
  |some (_,te),.c (.one (.d (.int .i64 n)))=>match a7 K x with
   | .c (.one (.d (.bG u xs)))=>match Nat.beq te.size (aR u) with
    |true=>0<=n/\ ∃y,fd xs n.toNat=some y/\k (.c (.one (.el u y 0))) bK
    |false=>False
   | .c (.one (.own c))=>match aj B c with
    |some (.row _ u xs)=>match Nat.beq te.size (aR u) with
     |true=>(0<=n/\n < xs.length)/\k (.c (.one (.fW c (aR u) n.toNat 0))) ⟨[c],[],[]⟩
     |false=>False
    |_=>False
   |_=>False
  |_,_=>False):cN P N ids o K B k:=by
 have m1:x∈o.op.operands:=aD8
 have m2:i∈o.op.operands:=aD8
 split at h
 .rename_i e te n U aE;obtain⟨a6,di,ds,bx⟩:=pS bl U
  split at h
  .rename_i u xs hx
   split at h
   .rename_i au;have au:=at1 au;obtain⟨aw,y,aC,h⟩:=h;refine cN.of h <| bD.two hx aE m1 m2 fun K' ρ I a w av af ao=>?_
    obtain⟨A,cap,bo,c7,fY,ia⟩:=av.bG af;injection bo with bo
    have bv:=Cg aC;obtain⟨b,q,rfl,a1,H⟩:=ia aD1;refine⟨_,Qp ag bo (av.int ao) a6 bx.km (bx.size.trans au) aw bv,b,q+n.toNat*aR u,by rw[az5],a1,?_⟩;refine cw.mono (cp.refl _ _) u y _ _ (fun j v V=>?_) (H _ y aC);rw[<-V]
    congr 2
    omega
   .exact h.elim
  .rename_i c hx
   split at h
   .rename_i b9 u xs ak
    split at h
    .rename_i au;have au:=at1 au;obtain⟨⟨aw,E⟩,h⟩:=h;refine cN.of h <| bD.val fun K' B' g1 g2 C ρ F a w al av=>?_
     obtain⟨bj,ko,cs,dN,_⟩:=al.holds c _ ((g2 c aD3).trans ak);have dY:=av.own ((g1 x m1).trans hx);rcases dN.2 with⟨_,G⟩ |⟨g,cap,dm,az,_⟩
     .omega
     .have O:=ko g (by rw[az];rfl);refine⟨_,Qp ag (dY.trans az) (av.int ((g1 i m2).trans aE)) a6 bx.km (bx.size.trans au) aw aD1,?_⟩;simp only[cA,gS,d'];rw[<-O,aw9,az5]
    .exact h.elim
   .exact h.elim
  .exact h.elim
 .exact h.elim
def aaf (bl:eq P aV) {T:aI0} {x i:aH8} (ag:o.op= .index T x i) (h:match xY aV T,a7 K x,a7 K i with
  |true,.c (.one (.d (.str s))),.c (.one (.d (.int .i64 n)))=>0<=n/\ ∃y,fd s n.toNat=some y/\k (.c (.one (.d (.int .u8 (UInt8.toNat y:Int))))) bK
  |_,_,_=>False):cN P N ids o K B k:=by
 have m1:x∈o.op.operands:=aD8
 have m2:i∈o.op.operands:=aD8
 split at h
 .rename_i s n b8 hx aE;obtain⟨aw,y,aC,h⟩:=h;have a6:=FN bl b8;refine cN.of h <| bD.two hx aE m1 m2 fun K' ρ I a w av af ao=>⟨_,?_,rfl⟩
  have O:(⟨s.toArray⟩:aJ2)[n.toNat]? =some y:=by
   have bv:=Cg aC;have:=(at0.1 aC).2;rw[getElem?_pos (⟨s.toArray⟩:aJ2) n.toNat (by rw[x3];exact bv)];simp only[as9];rw[<-this];rfl
  simp[execOp,ag,av.str af,av.int ao,Instr.index,asIntOf,run_underlying a6,aw,O]
 .exact h.elim
def J2 {K':aZ} {ρ:Nat->bq} {I:Nat->Prop} {a:Act} {w:aH5} (av:eF K' ρ I a w) {n cap:Nat} {FP:Bool} {iv aE:Option Operand} {l h:Nat} {p:Prop} (O:z7 n (iv.map (a7 K)) (aE.map (a7 K))=some (l,h,p)) (ae:p) (J:n<=cap)
  (ak: ∀x,iv=some x->a7 K' x=a7 K x) (bd: ∀x,aE=some x->a7 K' x=a7 K x):
  (Instr.sliceBounds FP n cap (iv.map a.eval) (aE.map a.eval) none).run P w= .ok (l,h,cap) w/\l<=h/\h<=n:=by
 unfold z7 at O
 split at O
 .rename_i j E G
  cases iv with
  |some x=>simp at E
  |none=>
   cases aE with
   |none=>simp at G
   |some y=>
    simp only[ay7,as9] at G;simp only[as9,ay8] at O;obtain⟨rfl,rfl,rfl⟩:=O;have aC:=av.int ((bd y rfl).trans G);have q:j<=(cap:Int):=aD9
    refine⟨?_,aD1,aD1⟩;simp[Instr.sliceBounds,Instr.sliceBound,asIntOf,aC,ae.1,q]
 .rename_i i E G
  cases iv with
  |none=>simp at E
  |some x=>
   cases aE with
   |some y=>simp at G
   |none=>
    simp only[ay7,as9] at E;simp only[as9,ay8] at O;obtain⟨rfl,rfl,rfl⟩:=O;have hx:=av.int ((ak x rfl).trans E);refine⟨?_,aD1,as2 _⟩;simp[Instr.sliceBounds,Instr.sliceBound,asIntOf,hx,ae.1,ae.2]
 .rename_i i j E G
  cases iv with
  |none=>simp at E
  |some x=>
   cases aE with
   |none=>simp at G
   |some y=>
    simp only[ay7,as9] at E G;simp only[as9,ay8] at O;obtain⟨rfl,rfl,rfl⟩:=O;have hx:=av.int ((ak x rfl).trans E);have aC:=av.int ((bd y rfl).trans G);have J3:0<=j:=aD9
    have q:j<=(cap:Int):=aD9
    have cB:i<=((j.toNat:Nat):Int):=aD9
    refine⟨?_,aD1,aD1⟩;simp[Instr.sliceBounds,Instr.sliceBound,asIntOf,hx,aC,ae.1,J3,q,ae.2.1];intro bv;omega
 .rename_i E G
  cases iv with
  |some x=>simp at E
  |none=>
   cases aE with
   |some y=>simp at G
   |none=>
    simp only[as9,ay8] at O;obtain⟨rfl,rfl,rfl⟩:=O;refine⟨?_,at2 _,as2 _⟩;simp[Instr.sliceBounds]
 .cases O
def aag {I:Nat->Prop} {w:aH5} {u:bB} {xs:List (aa u)} {A:Option Addr} {cap l h:Nat} (hx:cw I w (.cc u) xs (fun _=>some (.slice A xs.length cap))) (ak:l<=h) (bd:h<=xs.length):
  cw I w (.cc u) ((xs.take h).drop l) (fun _=>some (.slice (if cap=l then A else A.map (·.add (l*aR u))) (h - l) (cap - l))):=by
 obtain⟨A',J4,e,E,G,ah⟩:=hx;injection e with e
 injection e with af ao bo
 subst af bo;have bX:List.length ((xs.take h).drop l)=h - l:=by rw[ax4,at3];omega
 refine⟨_,_,by rw[bX],by rw[bX];omega,aD1,fun lz=>?_⟩;rw[bX] at lz;obtain⟨b,q,rfl,a1,H⟩:=ah aD1;refine⟨b,q+l*aR u,by rw[mu aD1,ay7,qt],a1,fun i x aE=>?_⟩
 have J5:fd (α:=aa u) xs (l+i)=some x:=by
  unfold fd at aE⊢;rw[aA7,ax3] at aE
  split at aE
  .exact aE
  .cases aE
 refine cw.mono (cp.refl _ _) u x _ _ (fun j v V=>?_) (H _ x J5);rw[<-V,Nat.add_mul]
 congr 2
 omega
def aah (bl:eq P aV) {T:aI0} {x:aH8} {iv aE:Option Operand} (ag:o.op= .slice T x iv aE none) (h:JC aV T (a7 K x) (iv.map (a7 K)) (aE.map (a7 K)) k):cN P N ids o K B k:=by
 have m1:x∈o.op.operands:=aD8
 have m2: ∀y,iv=some y->y∈o.op.operands:=fun y aC=>by rw[ag];simp[Op.operands,aC]
 have m3: ∀y,aE=some y->y∈o.op.operands:=fun y aC=>by rw[ag];simp[Op.operands,aC]
 unfold JC at h
 split at h
 .rename_i s hx
  split at h
  .rename_i l bd p b8 O;have a6:=FN bl b8;refine cN.of h.2 <| bD.val fun K' B' E G C ρ F a w al av=>⟨_,?_,rfl⟩
   have dY:=av.str ((E x m1).trans hx);obtain⟨cB,cH,dO⟩:=J2 (P:=P) av (FP:=false) O h.1 (as2 _) (fun y aC=>E y (m2 y aC)) (fun y aC=>E y (m3 y aC));rw[<-x3 s] at cB
   have U:(⟨s.toArray⟩:aJ2).extract l bd=⟨((s.take bd).drop l).toArray⟩:=by
    have e:=Lib.extract_data ⟨s.toArray⟩ l bd
    cases aN:(⟨s.toArray⟩:aJ2).extract l bd with
    |mk tS=>
     rw[aN] at e;simp only at e
     congr 1
     rw[<-Array.toArray_toList (xs:=tS),e,List.drop_take]
   rw[<-U];simp only[execOp,ag,aw5,Instr.sliceAt,Instr.slice,run_underlying a6,au5,dY,Option.map_none];simp only[Option.isSome_none,Bool.false_eq_true,if_false,aw5,ax2,au5,cB]
  .exact h.elim
 .rename_i u xs hx
  split at h
  .rename_i e te l bd p U O;obtain⟨a6,di,ds,bx⟩:=pS bl U
   split at h
   .rename_i au;have au:=at1 au;refine cN.of h.2 <| bD.val fun K' B' E G C ρ F a w al av=>?_
    have H:=av.bG ((E x m1).trans hx);have dC:=H;obtain⟨A,cap,bo,c7,fY,ia⟩:=dC;injection bo with bo
    rw[bo] at H;obtain⟨cB,cH,dO⟩:=J2 (P:=P) (w:=w) av (FP:=true) O h.1 c7 (fun y aC=>E y (m2 y aC)) (fun y aC=>E y (m3 y aC));refine⟨_,?_,aag H cH dO⟩;have aN:(sizeOf e).run P w= .ok (aR u) w:=by simp[sizeOf,typeInfo,bx.km,bx.size,au]
    simp only[execOp,ag,aw5,Instr.sliceAt,Instr.slice,run_underlying a6,au5,bo,Option.map_none,cB,aN,ax2]
   .exact h.elim
  .exact h.elim
 .exact h.elim
def Qq {I:Nat->Prop} {w:aH5} {s:aG9} {v:aI3} (h:cw I w (.cc .u8) s (fun _=>some v)) (a1: ∀b,I b->b < w.heap.size): ∃A c,v= .slice A s.length c/\qs I w (.slice A s.length c) s:=by
 obtain⟨e7,E,G,ah⟩:=Qh h a1;have tW:=E;obtain⟨ak,A,c,rfl,_⟩:=E
 have e:e7=s.map ir:=by
  apply aA3;intro i;rw[au8]
  cases au:s[i]? with
  |none=>
   have:=List.getElem?_eq_none_iff.1 au;rw[aA5 (by rw[ak];simp[aR];exact this)];rfl
  |some x=>
   have:=G i x au;have this:e7[i*aR .u8+0]? =some (.int .u8 (UInt8.toNat x:Int)):=this;simpa[aR,ir] using this
 subst e;exact⟨A,c,rfl,tW⟩
def aai (bl:eq P aV) {S T:aI0} {x:aH8} (ag:o.op= .convert S T x) (h:JB aV S T (a7 K x) B k):cN P N ids o K B k:=by
 have m1:x∈o.op.operands:=aD8
 unfold JB at h
 split at h
 .rename_i PV ti au cm;obtain⟨kG,hA,Aj⟩:=bl.at_ au;obtain⟨jX,jd,tX⟩:=bl.at_ cm
  split at h
  .rename_i i j Qf n b' cS hx
   split at h
   .rename_i V _;have V:=ol V;subst V;refine cN.of h <| bD.one hx m1 fun K' ρ I a w av af=>⟨_,?_,rfl⟩
    have az:=av.int af;have hw:IntKind.u8.wrap n=n % 256:=by simp[IntKind.wrap,IntKind.bits,IntKind.signed]
    simp[execOp,ag,az,convert,run_underlying (Aj.int b'),run_underlying (tX.int cS),Conv.intToInt,hw]
   .have h:=xW h;refine cN.of h.2 <| bD.one hx m1 fun K' ρ I a w av af=>⟨_,?_,rfl⟩
    have az:=av.int af;simp[execOp,ag,az,convert,run_underlying (Aj.int b'),run_underlying (tX.int cS),Conv.intToInt,x2 h.1]
  .rename_i e s b' cS hx
   split at h
   .rename_i a6;obtain⟨rB,_⟩:=x5 bl a6;refine cN.of h.2 <| bD.new fun K' B' E G C ρ F a w al av=>?_
    have az:=av.str ((E x m1).trans hx);obtain⟨cap,d9,d3,O,gb⟩:=Zc (P:=P) w S T e ⟨s.toArray⟩ (Aj.str b') (tX.cc cS) rB (by rw[x3];exact h.1);rw[x3] at d3 O;refine⟨.slice (some ⟨w.heap.size,0,none⟩) s.length cap,d9,by simp only[execOp,ag,aw5,az,d3,au5,ax2],gb,fun I U a1=>?_⟩;obtain⟨ak,A,c,af,ao,bo,c7⟩:=O;injection af with af lJ aaj
    subst af aaj;have jY:s.length<=cap:=by simpa using ao
    refine⟨_,cap,rfl,jY,bo,fun lz=>?_⟩;have aak:0 < s.length:=lz;obtain⟨b,q,nF,ww,bv,J⟩:=c7 (by simpa using aak);refine⟨b,q,nF,a1 b ww bv,fun i y aC=>?_⟩
    have ay:(List.map ir s)[i]? =some (ir y):=by
     rw[au8];exact as5 (Option.map ir) aC
    show d9.cell? ⟨b,q+(i*1+0),none⟩=some (ir y);rw[Nat.mul_one,az5];exact J i _ ay
   .exact h.elim
  .rename_i e s b' cS hx
   split at h
   .rename_i a6;obtain⟨rB,_⟩:=x5 bl a6;refine cN.of h <| bD.val fun K' B' E G C ρ F a w al av=>⟨_,?_,rfl⟩
    obtain⟨A,c,az,O⟩:=Qq (av.bG ((E x m1).trans hx)) (fun b O=>O.1);simp only[execOp,ag,aw5,az,PC O S T e (Aj.cc b') rB (tX.str cS),au5,ax2]
   .exact h.elim
  .rename_i e b' cS hx
   split at h
   .rename_i a6;obtain⟨rB,_⟩:=x5 bl a6;refine cN.of h <| bD.one hx m1 fun K' ρ I a w av af=>⟨_,?_,rfl⟩
    have az:=av.dV af;simp only[execOp,ag,aw5,az,run_convert_bytes_nil (P:=P) (w:=w) S e (Aj.cc b') rB 0 0 T (tX.str cS),au5,ax2];rfl
   .exact h.elim
  .rename_i e c b' cS hx
   split at h
   .rename_i b9 s ak a6;obtain⟨rB,_⟩:=x5 bl a6;refine cN.of h <| bD.val fun K' B' E G C ρ F a w al av=>⟨_,?_,rfl⟩
    have dN:=al.holds c _ ((G c aD3).trans ak);have H:=Cw dN (I':=fun b=>b < w.heap.size) (fun b O=>O.1) (fun b O=>(al.own c _ ((G c aD3).trans ak) b O).1);obtain⟨A,my,az,O⟩:=Qq H (fun b O=>O);have dY:=av.own ((E x m1).trans hx);simp only[execOp,ag,aw5,dY,az,PC O S T e (Aj.cc b') rB (tX.str cS),au5,ax2]
   .exact h.elim
  .exact h.elim
 .exact h.elim
def aal (bl:eq P aV) {T:aI0} {x:aH8} {iv aE:Option Operand} {c:Nat} (ag:o.op= .slice T x iv aE none) (hx:a7 K x= .c (.one (.own c))) (h:match elemOf aV T,aj B c with
   |some (_,te),some (.row _ u xs)=>match z7 xs.length (iv.map (a7 K)) (aE.map (a7 K)),Nat.beq te.size (aR u) with
    |some (l,h,p),true=>p/\k (.c (.one (.os c (aR u) l (h - l)))) ⟨[c],[],[]⟩
    |_,_=>False
   |_,_=>False):cN P N ids o K B k:=by
 have m1:x∈o.op.operands:=aD8
 have m2: ∀y,iv=some y->y∈o.op.operands:=fun y aC=>by rw[ag];simp[Op.operands,aC]
 have m3: ∀y,aE=some y->y∈o.op.operands:=fun y aC=>by rw[ag];simp[Op.operands,aC]
 split at h
 .rename_i e te b9 u xs U ak;obtain⟨a6,di,ds,bx⟩:=pS bl U
  split at h
  .rename_i l bd p O au;have au:=at1 au;refine cN.of h.2 <| bD.val fun K' B' E G C ρ F a w al av=>?_
   have dY:=av.own ((E x m1).trans hx);obtain⟨_,_,cs,dN,_⟩:=al.holds c _ ((G c aD3).trans ak);obtain⟨_,A,cap,az,hn,J,_⟩:=gl.sA dN;unfold bq.eS at az dY;injection az with af ao bo
   rw[ao] at dY;obtain⟨cB,cH,dO⟩:=J2 (P:=P) (w:=w) av (FP:=true) O h.1 (by rw[<-bo] at hn;exact hn:xs.length<=(ρ c).cap) (fun y aC=>E y (m2 y aC)) (fun y aC=>E y (m3 y aC));refine⟨_,?_,rfl⟩;have aN:(sizeOf e).run P w= .ok (aR u) w:=by simp[sizeOf,typeInfo,bx.km,bx.size,au]
   simp only[execOp,ag,aw5,Instr.sliceAt,Instr.slice,run_underlying a6,au5,dY,Option.map_none,cB,aN,ax2]
  .exact h.elim
 .exact h.elim
end
end
section
section
variable {P:aH6} {aV:dt} {N:Nat} {ids:aH0} {o:Oper} {K:aZ} {B:aA} {k:aS->fE->Prop}
def aam {c d:Nat} (h:aS.has d (.c (.one (.mp c)))=true):d=c:=(at1 h).symm
def FQ (bl:eq P aV) {T kt et:Nat} (h:xZ aV T=some (kt,et)):P.underlying T=some (.map kt et):=by
 unfold xZ at h
 split at h
 .rename_i ti gT
  split at h
  .rename_i k e Z;obtain⟨_,_,bx⟩:=bl.at_ gT;injection h with h
   injection h with E G
   subst E G;have:=bx.kd;rw[Z] at this;rw[bx.om]
   cases H:‹TypeDesc› <;>simp[H,tQ] at this⊢
   exact this
  .cases h
 .cases h
def J6 (bl:eq P aV) {kt:Nat} {aI:bB} (h:x1 aV kt aI=true): ∃d,P.underlying kt=some d/\nE aI d=true:=by
 unfold x1 at h
 split at h
 .rename_i ti gT;obtain⟨_,_,bx⟩:=bl.at_ gT
  split at h
  .rename_i k ea Z;have:=ol h;subst this;exact⟨_,bx.int Z,by simp[nE]⟩
  .rename_i Z;exact⟨_,bx.str Z,rfl⟩
  .cases h
 .cases h
def FR: ∀u:bB,o4 u (cR u)
 | .int _=>trivial
 | .u8=>trivial
 | .bool=>trivial
 | .str=>trivial
 | .aM=>trivial
 | .dz=>trivial
 | .fn=>trivial
 | .cc _=>trivial
 | .bU u v=>⟨FR u,FR v⟩
 | .arr n u=>⟨at5,fun x hx=>by
  have e:x=cR u:=List.eq_of_mem_replicate hx;rw[e];exact FR u⟩
def aan {ρ:Nat->bq} {I:Nat->Prop} {w:aH5} {s:bE} {x:D} {v:aI3} (h:Fv s x=true) (az:d' ρ I w s v):gY I w x v:=by
 unfold Fv at h
 split at h
 .simp only[as1,av6] at h;obtain⟨E,G⟩:=h;have:=ol E;subst this G;exact az
 .exact az
 .exact az
 .exact az
 .rename_i b c;have:b=c:=aE0
  subst this;exact az
 .rw[show v=_ from az];exact⟨none,0,rfl,as2 _,at2 _,fun h=>as3 h (Nat.lt_irrefl 0)⟩
 .cases h
def Qr: ∀{l m:List bE},iX l m=true->l.length=m.length
 | [],[],_=>rfl
 |s::l,.d x::m,h=>by
  simp only[iX,as1] at h;simp[Qr h.2]
 | [],_::_,h=>by simp[iX] at h
 |_::_,[],h=>by simp[iX] at h
 |_::_,.ptr _ _::_,h=>by simp[iX] at h
 |_::_,.own _::_,h=>by simp[iX] at h
 |_::_,.el _ _ _::_,h=>by simp[iX] at h
 |_::_,.fW _ _ _ _::_,h=>by simp[iX] at h
 |_::_,.os _ _ _ _::_,h=>by simp[iX] at h
 |_::_,.mp _::_,h=>by simp[iX] at h
 |_::_,.c3 _ _::_,h=>by simp[iX] at h
 |_::_,.dV::_,h=>by simp[iX] at h
 |_::_,.bN _::_,h=>by simp[iX] at h
 |_::_,.any::_,h=>by simp[iX] at h
def Qs: ∀{l m:List bE},iX l m=true-> ∀(i:Nat) (y:bE),m[i]? =some y-> ∃s x,l[i]? =some s/\y= .d x/\Fv s x=true
 | [],[],_,i,y,aC=>by simp at aC
 |s::l,.d x::m,h,0,y,aC=>by
  simp only[iX,as1] at h;simp only[at9,as9] at aC;exact⟨s,x,rfl,aC.symm,h.1⟩
 |s::l,.d x::m,h,i+1,y,aC=>by
  simp only[iX,as1] at h;simpa using Qs h.2 i y (by simpa using aC)
 | [],_::_,h,_,_,_=>by simp[iX] at h
 |_::_,[],h,_,_,aC=>by simp at aC
 |_::_,.ptr _ _::_,h,_,_,_=>by simp[iX] at h
 |_::_,.own _::_,h,_,_,_=>by simp[iX] at h
 |_::_,.el _ _ _::_,h,_,_,_=>by simp[iX] at h
 |_::_,.fW _ _ _ _::_,h,_,_,_=>by simp[iX] at h
 |_::_,.os _ _ _ _::_,h,_,_,_=>by simp[iX] at h
 |_::_,.mp _::_,h,_,_,_=>by simp[iX] at h
 |_::_,.c3 _ _::_,h,_,_,_=>by simp[iX] at h
 |_::_,.dV::_,h,_,_,_=>by simp[iX] at h
 |_::_,.bN _::_,h,_,_,_=>by simp[iX] at h
 |_::_,.any::_,h,_,_,_=>by simp[iX] at h
def aao (bl:eq P aV) {et:Nat} {aK:bB} (h:Fw aV et aK=true) {I:Nat->Prop} {w:aH5}: ∃aB,(zeroValue et).run P w= .ok aB w/\jT I w aK (cR aK) aB:=by
 unfold Fw at h
 split at h
 .rename_i ti gT;obtain⟨i,d,bx⟩:=bl.at_ gT;simp only[as1,beq_iff_eq,ay3] at h;obtain⟨⟨E,G⟩,ah⟩:=h;obtain⟨aB,aN,m7⟩:=bx.zero;have H:=(wD (ρ:=fun _=>⟨0,none,0,0⟩) (I:=I) (w:=w) _ _ m7).1;have ak:=cg.length _ _ H;have qA:ti.zero.length=aR aK:=(Qr E).trans (tT aK _ _ _)
  have au:aB.cells.size=aR aK:=by
   rw[<-qA,<-ak];simp
  refine⟨aB,by simp[zeroValue,typeInfo,bx.km,aN],au,⟨fun ag=>?_,fun ag=>?_⟩,cw.mk _ _ _ (FR aK) fun j V=>?_⟩
  .refine bx.P4 aB aN ?_;rw[bx.row,G,ag];rfl
  .have:2<=aR aK:=by
    rcases ah with ah |ah
    .rw[ag] at ah;cases ah
    .exact aA1 ah
   cases aB with
   |agg cs=>exact⟨cs,rfl⟩
   |_=>simp[Value.cells] at au;omega
  .have aU:=Ag aK (cR aK) (aR aK) 0 j V;rw[aw9] at aU;obtain⟨s,x,af,ao,bo⟩:=Qs E j _ aU;injection ao with ao
   obtain⟨v,c7,fY⟩:=cg.get _ _ H j s af;exact⟨v,c7,by rw[ao];exact aan bo fY⟩
 .cases h
def Qt {ρ:Nat->bq} {I:Nat->Prop} {w:aH5} {u:bB} {x:aa u} {v:aI3} (ag:nD u=true) (h:jT I w u x v):d' ρ I w (.d (fS u x 0)) v:=by
 obtain⟨E,G,ah⟩:=h;have J:=G.1 ag;have lz:0 < aR u:=by rw[<-E,J];simp
 obtain⟨dr,af,ao⟩:=cw.cell u x _ 0 ah lz;rw[J] at af;simp at af;subst af;exact ao
def Qu {ρ:Nat->bq} {I:Nat->Prop} {w:aH5} {u:bB} {x:aa u} {v:aI3} (ag:nD u=false) (h:jT I w u x v):gS ρ I w (.agg (gI u x 0 (aR u))) v:=by
 obtain⟨E,G,ah⟩:=h;obtain⟨cs,e⟩:=G.2 ag;subst e;obtain⟨aF,g1,g2⟩:=FJ (ρ:=ρ) ah (aR u) 0 aD1;have ak:=cg.length _ _ g1;rw[tT] at ak
 have e:aF=cs.toList:=by
  apply aA3;intro j
  by_cases V:j < aF.length
  .obtain⟨v,az⟩: ∃v,aF[j]? =some v:=⟨_,as0 V⟩;have:=g2 j v az;rw[az,<-this];simp[Value.cells]
  .rw[aA5 aD1,aA5 (by simp[Value.cells] at E;simp;omega)]
 subst e;exact⟨_,aD3,g1⟩
def fSz {ρ:Nat->bq} {I:Nat->Prop} {w:aH5} {u:bB} {x:aa u} {v:aI3} (h:jT I w u x v):gS ρ I w (z8 u x) v:=by
 cases u with
 |bU u v=>exact Qu rfl h
 |arr n u=>exact Qu rfl h
 |_=>exact Qt (ρ:=ρ) rfl h
def aap {ρ:Nat->bq} {I:Nat->Prop} {w:aH5} {u:bB} {s:aS} {y:aa u} {p:Option Prop} (h:JG u s=some (y,p)) (ae:uQ p) {v:aI3} (az:cA ρ I w s v):jT I w u y v:=by
 unfold JG at h
 split at h
 .rename_i dr y'
  split at h
  .rename_i sN _ ag;subst sN;injection h with h
   injection h with E G
   subst E G;obtain⟨aF,e,E,G⟩:=az;subst e;exact⟨by simpa[Value.cells] using E,⟨fun e=>(by rw[ag] at e;cases e),fun _=>⟨_,rfl⟩⟩,by simpa[Value.cells,Jl] using G⟩
  .cases h
 .rename_i s'
  split at h
  .rename_i y' kH ag H;injection h with h
   injection h with E G
   subst E G;obtain⟨oo,tU,af,ao,bo,c7,fY⟩:=Ah u ρ I w _ _ _ _ H ae [v] ⟨v,[],rfl,az,rfl⟩;rw[show tU=[] from c7,av8] at af;subst af
   have J:v.cells= #[v]:=by
    have:=fY v aD3
    cases v <;>first |rfl |(simp[Value.oneCell'] at this)
   refine⟨by rw[J,<-ao];rfl,⟨fun _=>J,fun e=>(by rw[ag] at e;cases e)⟩,by rw[J];exact bo⟩
  .cases h
 .rename_i l
  split at h
  .rename_i y' kH ag H;injection h with h
   injection h with E G
   subst E G;obtain⟨aF,e,az⟩:=az;subst e;obtain⟨oo,tU,af,ao,bo,c7,fY⟩:=Ah u ρ I w _ _ _ _ H ae aF az;rw[show tU=[] from c7,av8] at af;subst af;exact⟨by simpa[Value.cells] using ao,⟨fun e=>(by rw[ag] at e;cases e),fun _=>⟨_,rfl⟩⟩,by simpa[Value.cells] using bo⟩
  .cases h
 .cases h
def Cy {ρ:Nat->bq} {I:Nat->Prop} {w:aH5} {aI:bB} {s:aS} {key:aa aI} (h:x0 aI s=some key) {v:aI3} (az:cA ρ I w s v):v=gZ aI key:=by
 unfold x0 at h
 split at h
 .split at h
  .rename_i e;have:=ol e;injection h with h
   subst this h;exact az
  .cases h
 .injection h with h
  subst h;exact az
 .cases h
def eF.mp {K':aZ} {ρ:Nat->bq} {I:Nat->Prop} {a:Act} {w:aH5} {x:aH8} (av:eF K' ρ I a w) {c:Nat} (h:a7 K' x= .c (.one (.mp c))):a.eval x= .map (some (ρ c).bm):=av.ev h
def aaq (bl:eq P aV) {T:aI0} {x i:aH8} {ok:Bool} (ag:o.op= .lookup T x i ok) (h:JF aV T (a7 K x) (a7 K i) ok B k):cN P N ids o K B k:=by
 have m1:x∈o.op.operands:=aD8
 have m2:i∈o.op.operands:=aD8
 unfold JF at h
 split at h
 .rename_i c hx
  split at h
  .rename_i aI aK es ak
   split at h
   .rename_i kt et key b8 Z
    have sL: ∀(v:aS),(x1 aV kt aI&&Fw aV et aK)=true->(∀(ρ:Nat->bq) (I:Nat->Prop) (w:aH5) (u:aI3),jT I w aK ((b0 es key).getD (cR aK)) u->cA ρ I w v (if ok then .tuple #[u,.bool (b0 es key).isSome] else u))->bD P N ids o K B v ⟨[c],[],[]⟩:=by
     intro v bx az;simp only[as1] at bx;obtain⟨d,x7,lv⟩:=J6 bl bx.1;refine bD.val fun K' B' g1 g2 C ρ F a w al av=>?_
     obtain⟨bj,bV,bY,O,ay,cQ⟩:=al.holds c _ ((g2 c aD3).trans ak);obtain⟨aB,aN,rt⟩:=aao bl bx.2 (I:=b5 C B' F w) (w:=w);obtain⟨u,ax,a6⟩:=PL (P:=P) (FQ bl b8) x7 lv O ay aN rt key ok;have af:=av.mp ((g1 x m1).trans hx);have ao:a.eval i=gZ aI key:=Cy Z (av.ev (g1 i m2));exact⟨_,by simp only[execOp,ag,aw5,af,ao,ax,au5,ax2],az ρ _ w u a6⟩
    split at h
    .rename_i bx;rw[Fg] at h;refine cN.of h (sL _ bx fun ρ I w u a6=>?_);exact⟨[u,.bool (b0 es key).isSome],rfl,u,_,rfl,fSz a6,_,_,rfl,rfl,rfl⟩
    .rename_i bx;rw[Fg] at h;exact cN.of h (sL _ bx fun ρ I w u a6=>fSz a6)
    .exact h.elim
   .exact h.elim
  .exact h.elim
 .exact h.elim
def u5 {w:aH5} {b:Nat} {m8:Obj} {S:Nat->Prop} (av:S b):cZ S w {w with heap:=w.heap.setIfInBounds b m8}:=
 ⟨rfl,rfl,rfl,aD3,fun j _ hn=>by simp only[];rw[az2 (fun e=>hn (by rw[<-e];exact av))]⟩
def aar (bl:eq P aV) {T:aI0} {x i v:aH8} (ag:o.op= .mapUpdate T x i v) (h:JH aV T (a7 K x) (a7 K i) (a7 K v) B k):cN P N ids o K B k:=by
 have m1:x∈o.op.operands:=aD8
 have m2:i∈o.op.operands:=aD8
 have m3:v∈o.op.operands:=aD8
 unfold JH at h
 split at h
 .rename_i c hx
  split at h
  .rename_i aI aK es ak
   split at h
   .rename_i kt et key b8 Z
    have sL: ∀y:aa aK,x1 aV kt aI=true->(∀(ρ:Nat->bq) (I:Nat->Prop) (w:aH5) (u:aI3),cA ρ I w (a7 K v) u->jT I w aK y u)->bD P N ids o K B .undef ⟨[c],[],[(c,some (.map aI aK (dx es key y)))]⟩:=fun y bx az=>by
     obtain⟨d,x7,lv⟩:=J6 bl bx;refine bD.h8 ak fun K' B' g1 C ρ F a w al av gz=>?_
     obtain⟨bj,bV,bY,O,ay,cQ⟩:=al.holds c _ gz;have af:=av.mp ((g1 x m1).trans hx);have ao:a.eval i=gZ aI key:=Cy Z (av.ev (g1 i m2));have bo:jT _ _ aK y (a.eval v):=az _ _ _ _ (av.ev (g1 v m3));obtain⟨eL,kl,ax,gK,qB⟩:=Cj (P:=P) (FQ bl b8) x7 lv O ay cQ key bo;have bv:=(az9.1 O).1;refine⟨{w with heap:=w.heap.setIfInBounds (ρ c).bm (.map (List.toArray eL) kl)},by simp only[execOp,ag,aw5,af,ao,ax,au5,ax2],u5 ((bj _).2 rfl),fun I a2=>⟨bj,eL,kl,by simp[bv],gK.mono a2,qB⟩⟩
    split at h
    .rename_i y p bx az;exact cN.of h.2 (sL y bx fun ρ I w u a6=>aap az h.1 a6)
    .rename_i bx _
     split at h
     .rename_i l az sH;obtain⟨y,⟨hw,gz⟩,h⟩:=h;refine cN.of h (sL y bx fun ρ I w u a6=>?_);rw[az] at a6;obtain⟨aF,e,H⟩:=a6;subst e gz;exact⟨by simpa[Value.cells,tT] using cg.length _ _ H,⟨fun e=>(by rw[sH] at e;cases e),fun _=>⟨_,rfl⟩⟩,by simpa[Value.cells] using Cu hw H⟩
     .exact h.elim
    .exact h.elim
   .exact h.elim
  .exact h.elim
 .exact h.elim
def bD.Qv {c:Nat} {cG ch:ba} (J:aj B c=some cG)
  (h: ∀(K':aZ) (B':aA),(∀x,x∈o.op.operands->a7 K' x=a7 K x)-> ∀(C:fv) (ρ:Nat->bq) (F:Nat->Nat->Prop) (a:Act) (w:aH5),Mem ids C B' ρ F w->eF K' ρ (b5 C B' F w) a w->aj B' c=some cG-> ∃w',(execOp a.eval o).run P w= .ok (.value (.tuple #[])) w'/\cZ (F c) w w'/\
   (∀I,cp (b5 C B' F w) w I w'->Holds ρ I (F c) w' (ρ c) ch)):
  bD P N ids o K B (.cn []) ⟨[c],[],[(c,some ch)]⟩:=by
 rintro K' B' E G - C a w ⟨hn,H,ρ,F,al,av⟩ bv ga Q cE;have cW:aj B' c=some cG:=(G c aD3).trans J;obtain⟨w',hx,cJ,c4⟩:=h K' B' E C ρ F a w al av cW;obtain⟨bC,U⟩:=al.h8 cW cJ c4;unfold Oper.wp;rw[hx,Oper.upon_value];exact cE _ _ ⟨kW.trans hn,kX.trans H,ρ,F,bC,(av.mono U fun _ _ _=>rfl).kY (fun e U=>by rw[hn];exact bv e U) ⟨[],rfl,rfl⟩⟩
def aas (bl:eq P aV) {T e8:aI0} {x i:aH8} {c:Call} (ag:o.op= .call c) (d4:c.callee= .builtin .delete) (ee:c.args.toList=[x,i]) (l4:c.argTypes.toList=[T,e8]) (h:JI aV T (a7 K x) (a7 K i) B k):cN P N ids o K B k:=by
 have fM:c.args= #[x,i]:=ay1.1 ee;have jZ:c.argTypes= #[T,e8]:=ay1.1 l4;obtain⟨sO,args,cx⟩:=c;simp only at d4 fM jZ;subst d4 fM jZ;have m1:x∈o.op.operands:=aE2
 have m2:i∈o.op.operands:=aE2
 unfold JI at h
 split at h
 .rename_i c hx
  split at h
  .rename_i aI aK es ak
   split at h
   .rename_i kt et key b8 Z
    split at h
    .rename_i bx;obtain⟨d,x7,lv⟩:=J6 bl bx;refine cN.of h <| bD.Qv ak fun K' B' g1 C ρ F a w al av gz=>?_
     obtain⟨bj,bV,bY,O,ay,cQ⟩:=al.holds c _ gz;have af:=av.mp ((g1 x m1).trans hx);have ao:a.eval i=gZ aI key:=Cy Z (av.ev (g1 i m2));obtain⟨eL,ax,gK,qB⟩:=PR (P:=P) (ty:=o.type) (FQ bl b8) x7 lv O ay cQ key e8;have bv:=(az9.1 O).1;refine⟨{w with heap:=w.heap.setIfInBounds (ρ c).bm (.map (List.toArray eL) bY)},?_,u5 ((bj _).2 rfl),fun I a2=>⟨bj,eL,bY,by simp[bv],gK.mono a2,qB⟩⟩;simp[execOp,ag,resolve,invoke,builtin,af,ao,ax]
    .exact h.elim
   .exact h.elim
  .exact h.elim
 .exact h.elim
def mx.arr {T:Nat} {ti:cd} {i:aI9} {d:aJ1} (h:mx P T ti i d) {n e:Nat} (Z:ti.kd= .arr n e):P.underlying T=some (.array n e):=by
 have:=h.kd;rw[Z] at this;rw[h.om]
 cases d <;>simp[tQ] at this⊢
 exact this
def aat (bl:eq P aV) {T:aI0} {x:aH8} (ag:o.op= .sliceToArrayPointer T x) (h:JL aV T (a7 K x) k):cN P N ids o K B k:=by
 have m1:x∈o.op.operands:=aD8
 unfold JL at h
 split at h
 .rename_i ti v xs gT hx;obtain⟨i,d,bx⟩:=bl.at_ gT
  split at h
  .rename_i n e Z;obtain⟨⟨aw,gy⟩,h⟩:=h;have a6:=bx.arr Z;refine cN.of h <| bD.one hx m1 fun K' ρ I a w av af=>?_
   obtain⟨A,cap,bo,c7,fY,ia⟩:=av.bG af;injection bo with bo
   obtain⟨b,q,rfl,a1,H⟩:=ia aD1;refine⟨.pointer (some ⟨b,q,none⟩),?_,b,q,rfl,a1,by simp;omega,fun i aB aN=>?_⟩
   .have: ¬List.length xs < n:=aD9
    simp[execOp,ag,bo,Instr.arrayAt,run_underlying a6,this]
   .have rC:fd (α:=aa v) xs i=some aB:=by
     unfold fd at aN⊢;rw[ax3] at aN
     split at aN
     .exact aN
     .cases aN
    exact H i aB rC
  .exact h.elim
 .exact h.elim
def aau (bl:eq P aV) {T:aI0} {x:aH8} {c:Nat} (ag:o.op= .slice T x none none none) (hx:a7 K x= .c (.one (.ptr c 0))) (h:JK aV T c B k):cN P N ids o K B k:=by
 have m1:x∈o.op.operands:=aD8
 unfold JK at h
 split at h
 .rename_i ti gT;obtain⟨i,d,bx⟩:=bl.at_ gT
  split at h
  .rename_i n e m v Z _;have a6:=bx.arr Z
   split at h
   .rename_i te l hn wE ak;simp only[as1,Nat.beq_eq,Nat.ble_eq,Nat.blt_eq] at hn;obtain⟨⟨_,kI⟩,x6⟩:=hn;obtain⟨wA,J7,aav⟩:=bl.at_ wE;obtain⟨ys,⟨hw,gz⟩,h⟩:=h;refine cN.of h ?_;rintro K' B' E G - C a w ⟨sP,tV,ρ,F,al,av⟩ bv ga Q cE;have J8:aj B' c=some (.cells l):=(G c aD3).trans ak;obtain⟨bj,aF,e8,O,H⟩:=al.holds c _ J8;have af:=av.ptr ((E x m1).trans hx);subst gz;have aaw:=Cu hw H;have a8:n≠0:=aD9
    have d3:(execOp a.eval o).run P w= .ok (.value (.slice (some ⟨(ρ c).bm,0,none⟩) n n)) w:=by
     simp[execOp,ag,af,Instr.sliceAt,run_underlying a6,Instr.sureAddr,Instr.sliceBounds,sizeOf,typeInfo,aav.km,a8,qt]
    obtain⟨bC,a2⟩:=al.step (B':=g8 B' c) (ρ':=ρ) (F':=F) (w':=w) (fun d=>d=c) (fun _=>False) (cZ.refl _ w) (fun d ch H a8=>by
      rw[hM,mu (fun e=>a8 e.symm)] at H;exact H) (fun _ _=>rfl) (fun _ _=>rfl) (fun _ _ h=>h) (fun _ h=>h.elim) (fun _ _ _ _ _ _ h=>h)
     (fun d ch H al _=>by subst al;rw[hM,vj rfl] at H;cases H)
     (fun d ch H al=>by subst al;rw[hM,vj rfl] at H;cases H)
     (fun d da ch ch' b H _ al=>by subst al;rw[hM,vj rfl] at H;cases H)
    have m9:=(bj (ρ c).bm).2 rfl
    have a1:b5 C (g8 B' c) F w (ρ c).bm:=by
     obtain⟨cB,cH⟩:=al.own c _ J8 _ m9;refine⟨cB,?_,fun d ch H dB=>?_⟩
     .rcases cH with cH |cH
      .exact .inr (.inl cH)
      .exact .inr (.inr cH)
     .rw[hM] at H
      split at H
      .cases H
      .rename_i a8;exact al.fw c d _ ch _ J8 H a8 m9 dB
    unfold Oper.wp;rw[d3,Oper.upon_value];refine cE _ _ ⟨kW.trans sP,kX.trans tV,ρ,F,bC,(av.mono a2 fun _ _ _=>rfl).kY (fun e U=>by rw[sP];exact bv e U) ?_⟩;have bX:List.length ys=n:=hw.1;refine⟨_,n,by rw[bX],aD1,by simp only[maxLen];omega,fun _=>⟨_,0,rfl,a1,fun j aB aN=>?_⟩⟩;refine cw.mono a2 v aB _ _ (fun q y aQ=>?_) (aaw.2 j aB aN);rw[aw9];exact pd O aQ
   .exact h.elim
  .exact h.elim
 .exact h.elim
def aax (bl:eq P aV) {T:aI0} (ag:o.op= .makeMap T none) (h:JJ aV T o.dst ids K B k):cN P N ids o K B k:=by
 unfold JJ at h
 split at h
 .rename_i kt et d b8 H
  split at h
  .rename_i PW wA ari arj
   split at h
   .rename_i aI aK _ _;refine cN.bb h.2 h.1 <| bD.make (fun d h=>aam h) fun K' B' g1 g2 C ρ F a w al av hn=>?_
    refine⟨.map (some w.heap.size),w.alloc (.map #[] 0),⟨w.heap.size,none,0,0⟩,fun b=>b=w.heap.size,by simp only[execOp,ag,Option.map_none,aw5,Zr,au5,ax2],tL w _,fun b O=>by subst O;exact⟨as2 _,aD3⟩,fun I U O=>⟨⟨fun b=>Iff.rfl,[],0,Jd _ rfl,rfl,⟨aD3,fun e U=>by cases U⟩⟩,?_⟩⟩;simp only[cA,gS,d',dh]
   .exact h.elim
  .exact h.elim
 .exact h.elim
end
end
section
section
variable {P:aH6} {aV:dt} {N:Nat} {ids:aH0} {o:Oper} {K:aZ} {B:aA} {k:aS->fE->Prop}
def aay {w:aH5} (t e:aI0) (cm:P.underlying t=some (.slice e)) {i:aI9} (aE:P.info? e=some i) {aB:aI3} (aN:i.zero=some aB) (wF:aB.cells= #[.int .u8 0]) (au:i.size=1) (O:i.bytes=1) (n:Nat) (hn:n<=4294967296):
  (Instr.makeSlice t (.int .i64 (n:Int)) (.int .i64 (n:Int))).run P w= .ok (.slice (some ⟨w.heap.size,0,none⟩) n n) (w.alloc (.cells (List.replicate n (.int .u8 0)).toArray e)):=by
 have h:=run_make (P:=P) w t e i _ cm aE aN .i64 .i64 (n:Int) (n:Int) aD1 aD1 (by rw[O];omega) aD1;rw[h,au,wF];simp only[az0,Nat.mul_one]
 congr 3
 simp[madeCells];apply Array.ext
 .simp
 .intro i E G;simp[Nat.mod_one]
def Qw {ti:cd} {T:Nat} {i:aI9} {d:aJ1} (bx:mx P T ti i d) (aN:ti.zero=[.d (.int .u8 0)]): ∃aB,i.zero=some aB/\aB.cells= #[.int .u8 0]:=by
 obtain⟨aB,E,G⟩:=bx.zero;refine⟨aB,E,?_⟩;rw[aN] at G
 have:aB.cells.toList=[.int .u8 0]:=by
  match J:aB.cells.toList,G with
  | [v],G=>
   simp only[tR,Bool.and_true] at G;have:=(Qm (ρ:=fun _=>⟨0,none,0,0⟩) (I:=fun _=>False) (w:=default) G).1;rw[show v=_ from this]
  | [],G=>simp[tR] at G
  |_::_::_,G=>simp[tR] at G
 exact ay1.1 this
def aaz (bl:eq P aV) {T:aI0} {x y:aH8} (ag:o.op= .makeSlice T x y) (h:match elemOf aV T,a7 K x,a7 K y,o.dst with
  |some (e,te),.c (.one (.d (.int .i64 n))),.c (.one (.d (.int .i64 m))),some d=>match rv aV e with
   |true=>(n=m/\0<=n/\n<=4294967296)/\hk ids K B d=true/\k (.c (.one (.own d))) ⟨[],[d],[(d,some (.row e .u8 (List.replicate n.toNat (0:aJ8))))]⟩
   |false=>False
  |_,_,_,_=>False):cN P N ids o K B k:=by
 have m1:x∈o.op.operands:=aD8
 have m2:y∈o.op.operands:=aD8
 split at h
 .rename_i e te n m d U hx aC H;obtain⟨a6,di,ds,bx⟩:=pS bl U
  split at h
  .rename_i rB;obtain⟨rB,ti,jX,jd,oq,qC,gc,fk⟩:=x5 bl rB;obtain⟨aB,aN,wF⟩:=Qw oq qC;obtain⟨⟨rfl,aw,E⟩,cJ,h⟩:=h;refine cN.bb h cJ <| bD.make (fun d h=>Cx h) fun K' B' g1 g2 C ρ F a w al av hn=>?_
   have dY:=av.int ((g1 x m1).trans hx);have eo:=av.int ((g1 y m2).trans aC);have d3:=aay (P:=P) (w:=w) T e a6 oq.km aN wF (oq.size.trans gc) (oq.bytes.trans fk) n.toNat aD1;rw[show((n.toNat:Nat):Int)=n by omega] at d3;refine⟨.slice (some ⟨w.heap.size,0,none⟩) n.toNat n.toNat,w.alloc (.cells (List.replicate n.toNat (.int .u8 0)).toArray e),⟨w.heap.size,some ⟨w.heap.size,0,none⟩,n.toNat,n.toNat⟩,fun b=>b=w.heap.size,?_,tL w _,fun b O=>by subst O;exact⟨as2 _,aD3⟩,fun I U O=>⟨⟨?_,?_,List.replicate n.toNat (.int .u8 0),?_,?_⟩,?_⟩⟩
   .simp only[execOp,ag,aw5,dY,eo,d3,au5,ax2]
   .intro b;simp[bq.eS,Value.ownBlock,eq_comm]
   .intro b O;simp[bq.eS,Value.ownBlock] at O;exact O.symm
   .have:=FO w e 1 n.toNat (List.replicate n.toNat (.int .u8 0)) aD3 aF6;have af:List.length (α:=aa .u8) (List.replicate n.toNat (0:aJ8))=n.toNat:=at5;rw[af];exact this
   .intro i aB aN;obtain⟨aE,rC⟩:=at0.1 aN;have qC:aB=(0:aJ8):=by rw[<-rC];exact List.getElem_replicate ..
    have aE:i < n.toNat:=by
     have af:List.length (α:=aa .u8) (List.replicate n.toNat (0:aJ8))=n.toNat:=at5;rw[af] at aE;exact aE
    subst qC;show(List.replicate n.toNat (Value.int .u8 0))[i*1+0]? =some (Value.int .u8 ((0:aJ8).toNat:Int));rw[Nat.mul_one,az5,aB6,vj aE];rfl
   .simp only[cA,gS,d',dh,bq.eS]
  .exact h.elim
 .exact h.elim
def FT {w:aH5} {e s n:Nat} {v:aI3} {cs:aH4} (h:w.ownsRow 0 e s v n cs): ∃pl:bq,pl.eS=v/\ ∀b,v.ownBlock=some b->b=pl.bm:=by
 rcases h.2 with⟨rfl,_⟩ |⟨g,cap,dm,rfl,_⟩
 .exact⟨⟨0,none,0,0⟩,rfl,fun b O=>by cases O⟩
 .exact⟨⟨g,some ⟨g,0,none⟩,n,cap⟩,rfl,fun b O=>by simp[Value.ownBlock] at O;exact O.symm⟩
def aaA (bl:eq P aV) {T:aI0} {x y:aH8} {c:Call} {e:Nat} {te:cd} {u:bB} (ag:o.op= .call c) (d4:c.callee= .builtin .append) (ee:c.args.toList=[x,y]) (l4:c.argTypes.toList=[T,T]) (U:elemOf aV T=some (e,te)) (a6:te.u=some u)
  {a:Act} {w:aH5} {v:aI3} {n m:Nat} {cs e7:aH4} {D:Nat->Prop} (hx:a.eval x=v) (dN:w.ownsRow 0 e (aR u) v n cs) (E:gl D w (aR u) (a.eval y) m e7) (ah: ∀x∈e7,x.oneCell'=true) (hn:n+m<=4294967296):
  ∃dr w',(execOp a.eval o).run P w= .ok (.value dr) w'/\w'.ownsRow 0 e (aR u) dr (n+m) (cs++e7)/\w.grownBy w' v.ownBlock/\(dr.ownBlock=v.ownBlock\/dr.ownBlock=some w.heap.size):=by
 obtain⟨b8,di,ds,bx⟩:=pS bl U;obtain⟨aB,aN,m7⟩:=bx.zero;have cz:aR u=di.size:=(bx.u u a6).trans bx.size.symm
 have oc:aB.cells.size=di.size:=by
  have E:=cg.length _ _ (wD (ρ:=fun _=>⟨0,none,0,0⟩) (I:=fun _=>False) (w:=w) _ _ m7).1;simp at E;rw[E,bx.JS,bx.size]
 have lz:0 < di.size:=by have:=bx.pos;have:=bx.size;omega
 have uM:(n+m)*di.bytes<=140737488355328:=by
  have E:di.bytes<=32768:=by rw[bx.bytes];exact bx.P3
  exact az4 (ax9 hn E) aD2
 obtain⟨dr,w',d3,g1,g2,cK⟩:=Jc (P:=P) w 0 T o.type e di aB (aR u) di.bytes b8 bx.km aN cz.symm rfl (by rw[oc,cz]) (by rw[cz];exact lz) v n cs dN D (a.eval y) m e7 E ah aF6 uM (at2 _);refine⟨dr,w',?_,g1,g2,cK⟩;have fM:c.args= #[x,y]:=ay1.1 ee;have jZ:c.argTypes= #[T,T]:=ay1.1 l4;obtain⟨sO,args,cx⟩:=c;simp only at d4 fM jZ;subst d4 fM jZ;unfold execOp;simp only[ag,resolve,invoke,builtin,aw5,ax2,au5,List.map_toArray,au1,aC3,hx,d3]
def aaB {I:Nat->Prop} {w:aH5} {u:bB} {xs:List (aa u)} {cs:aH4} (ak:cs.length=xs.length*aR u) (h:g7 I w u xs cs): ∀v∈cs,v.oneCell'=true:=fun v az=>by
 obtain⟨k,Z,rfl⟩:=ay5 az;obtain⟨af,ao,bo⟩:=Fb (show k < xs.length*aR u by omega);obtain⟨dr,E,G⟩:=cw.one u _ _ (h (k/aR u) _ (as0 af)) (k % aR u) ao;rw[bo,as0 Z] at E;injection E with E
 rw[E];exact G
def Qx (bl:eq P aV) {T:aI0} {x y:aH8} {c:Call} {e:Nat} {te:cd} {u:bB} (ag:o.op= .call c) (d4:c.callee= .builtin .append) (ee:c.args.toList=[x,y]) (l4:c.argTypes.toList=[T,T]) (U:elemOf aV T=some (e,te)) (a6:te.u=some u)
  {a:Act} {w:aH5} {v:aI3} {n:Nat} {cs:aH4} {I:Nat->Prop} {ys:List (aa u)} (hx:a.eval x=v) (dN:w.ownsRow 0 e (aR u) v n cs) (aC:cw I w (.cc u) ys (fun _=>some (a.eval y))) (a1: ∀b,I b->b < w.heap.size) (hn:n+ys.length<=4294967296):
  ∃dr w' e7,(execOp a.eval o).run P w= .ok (.value dr) w'/\w'.ownsRow 0 e (aR u) dr (n+ys.length) (cs++e7)/\g7 I w u ys e7/\w.grownBy w' v.ownBlock/\(dr.ownBlock=v.ownBlock\/dr.ownBlock=some w.heap.size):=by
 obtain⟨b8,di,ds,bx⟩:=pS bl U;obtain⟨aB,aN,m7⟩:=bx.zero;obtain⟨e7,E,G,ah⟩:=Qh aC a1;have cz:aR u=di.size:=(bx.u u a6).trans bx.size.symm
 have oc:aB.cells.size=di.size:=by
  have E:=cg.length _ _ (wD (ρ:=fun _=>⟨0,none,0,0⟩) (I:=fun _=>False) (w:=w) _ _ m7).1;simp at E;rw[E,bx.JS,bx.size]
 have lz:0 < di.size:=by have:=bx.pos;have:=bx.size;omega
 have uM:(n+ys.length)*di.bytes<=140737488355328:=by
  have E:di.bytes<=32768:=by rw[bx.bytes];exact bx.P3
  exact az4 (ax9 hn E) aD2
 obtain⟨dr,w',d3,g1,g2,cK⟩:=Jc (P:=P) w 0 T o.type e di aB (aR u) di.bytes b8 bx.km aN cz.symm rfl (by rw[oc,cz]) (by rw[cz];exact lz) v n cs dN I (a.eval y) ys.length e7 E ah aF6 uM (at2 _);refine⟨dr,w',e7,?_,g1,G,g2,cK⟩;have fM:c.args= #[x,y]:=ay1.1 ee;have jZ:c.argTypes= #[T,T]:=ay1.1 l4;obtain⟨sO,args,cx⟩:=c;simp only at d4 fM jZ;subst d4 fM jZ;unfold execOp;simp only[ag,resolve,invoke,builtin,aw5,ax2,au5,List.map_toArray,au1,aC3,hx,d3]
def Mem.move {C:fv} {ρ:Nat->bq} {F:Nat->Nat->Prop} {w w':aH5} (h:Mem ids C B ρ F w) {c d:Nat} {cG ch:ba} (J:aj B c=some cG) (hf:hk ids K B d=true) (cJ:cZ (F c) w w') (pl:bq) (cj:Nat->Prop) (lu: ∀b,cj b->(F c b\/w.heap.size<=b)/\b < w'.heap.size)
  (c4: ∀I,cp (b5 C B F w) w I w'->(∀b,I b->b < w'.heap.size/\ ¬cj b)->Holds (dp ρ d pl) I cj w' pl ch):
  Mem ids C ((d,ch)::g8 B c) (dp ρ d pl) (dp F d cj) w'/\cp (b5 C B F w) w (b5 C ((d,ch)::g8 B c) (dp F d cj) w') w':=by
 obtain⟨eW,e9,f3,iZ⟩:=ls hf;have x8:d≠c:=fun e=>by subst e;rw[e9] at J;cases J
 refine h.step (fun i=>i=d\/i=c) (fun i=>i=d) (cJ.mono fun b _ O=>⟨c,cG,J,.inr rfl,O⟩) ?_ (fun i aE=>du _ _ aE) (fun i aE=>du _ _ (fun e=>aE (.inl e))) (fun i aE e=>iZ (e▸aE)) (fun _ h=>.inl h) ?_ ?_ ?_ ?_
 .intro i ch' aE a8;rw[ci,mu (fun e=>a8 (.inl e.symm)),hM] at aE
  split at aE
  .cases aE
  .exact aE
 .rintro i ch' aE _ j U rfl;rw[f3 i ch' aE] at U
  cases U
 .rintro i ch' aE al U;rw[ci] at aE
  split at aE
  .rename_i e;subst e;injection aE with aE
   subst aE;rw[dh,dh];exact c4 _ U fun b dB=>⟨dB.1,fun aU=>dB.2.2 d ch aF2 (by rw[dh];exact aU)⟩
  .rename_i e;rcases al with rfl |rfl
   .exact as3 rfl e
   .rw[hM,vj rfl] at aE;cases aE
 .rintro i ch' aE al b aU;rcases al with rfl |rfl
  .rw[dh] at aU;obtain⟨E,G⟩:=lu b aU;exact⟨G,E.imp (fun h=>⟨c,cG,J,.inr rfl,h⟩) id⟩
  .rw[ci,mu x8,hM,vj rfl] at aE;cases aE
 .rintro i j jm pc b aE V aaC aaD a8
  have q: ∀i ch',aj ((d,ch)::g8 B c) i=some ch'->(i=d\/i=c)->i=d:=fun i ch' aE al=>by
   rcases al with rfl |rfl
   .rfl
   .rw[ci,mu x8,hM,vj rfl] at aE;cases aE
  exact as3 ((q i jm aE aaC).trans (q j pc V aaD).symm) a8
def J9 {w w':aH5} {r:aI1} {S:Nat->Prop} (h:w.grownBy w' r) (av: ∀b,r=some b->S b):cZ S w w':=PB h av
def aaE (bl:eq P aV) {T:aI0} {x y:aH8} {c:Call} (ag:o.op= .call c) (d4:c.callee= .builtin .append) (ee:c.args.toList=[x,y]) (l4:c.argTypes.toList=[T,T])
  (h:JD aV T (a7 K x) (a7 K y) o.dst ids K B k):cN P N ids o K B k:=by
 have mem: ∀aB∈ [x,y],aB∈o.op.operands:=fun aB aN=>by
  rw[ag];simp only[Op.operands,Call.operands,aA9];exact .inr (aB7.1 (by rw[ee];exact aN))
 have m1:=mem x aD3;have m2:=mem y aD3;unfold JD at h
 split at h
 .rename_i e te d U H
  split at h
  .rename_i u v ys a6 aC
   split at h
   .rename_i sN _;subst sN
    split at h
    .rename_i hx;obtain⟨bX,cJ,h⟩:=h;refine cN.bb h cJ <| bD.make (fun d h=>Cx h) fun K' B' g1 g2 C ρ F a w al av hn=>?_
     obtain⟨dr,w',e7,d3,b',cS,en,e0⟩:=Qx bl ag d4 ee l4 U a6 (av.dV ((g1 x m1).trans hx)) (World.ownsRow_nil w 0 e (aR v)) (av.bG ((g1 y m2).trans aC)) (fun b O=>O.1) aD1;obtain⟨pl,hz,ko⟩:=FT b';have O:Below w.heap.size w w':=⟨en.os,en.tape,en.output,en.size,fun b O=>en.block b O (by simp[Value.ownBlock])⟩
     have aaF: ∀b,dr.ownBlock=some b->w.heap.size<=b/\b < w'.heap.size:=fun b dB=>by
      have:=b'.lt b dB;rcases e0 with e0 |e0
      .rw[e0] at dB;cases dB
      .rw[e0] at dB;injection dB with dB;omega
     refine⟨dr,w',pl,fun b=>dr.ownBlock=some b,d3,O,aaF,fun I hc a1=>⟨⟨fun b=>by rw[hz],fun b O=>ko b (by rwa[hz] at O),e7,?_,?_⟩,?_⟩⟩
     .rw[hz];have:=b';rw[aw9,aC6] at this;exact this
     .exact g7.mono hc cS
     .simp only[cA,gS,d',dh,hz]
    .rename_i my hx
     split at h
     .rename_i b9 tO xs ak
      split at h
      .rename_i J' sQ _;have sQ:=at1 sQ;subst J' sQ;obtain⟨bX,cJ,h⟩:=h;refine cN.bb h cJ ?_;rintro K' B' g1 g2 cK C a w ⟨sP,tV,ρ,F,al,av⟩ bv ga Q cE;have gz:aj B' my=_:=(g2 my aD3).trans ak;have hf:=cK d aD3;have pf:=ls hf;have bd:=al.holds my _ gz;obtain⟨bj,jo,cs,dN,kp⟩:=bd;obtain⟨dr,w',e7,d3,b',cS,en,e0⟩:=Qx bl ag d4 ee l4 U a6 (av.own ((g1 x m1).trans hx)) dN (av.bG ((g1 y m2).trans aC)) (fun b O=>O.1) (by have:(og rfl xs).length=xs.length:=rfl;omega);obtain⟨pl,hz,ko⟩:=FT b'
       obtain⟨bC,hc⟩:=al.move (K:=K') (ch:=.row b9 tO (og rfl xs++og rfl ys)) gz hf (J9 en fun b O=>(bj b).2 O) pl (fun b=>dr.ownBlock=some b) (fun b O=>⟨by
         rcases e0 with e0 |e0
         .exact .inl ((bj b).2 (e0.symm.trans O))
         .rw[e0] at O;injection O with O;exact .inr aD1,(b'.lt b O).2⟩)
        (fun I hc a1=>⟨fun b=>by rw[hz],fun b O=>ko b (by rwa[hz] at O),cs++e7,by rw[hz];simpa[og] using b',g7.uX (g7.mono hc kp) (g7.mono hc cS) dN.1⟩)
       unfold Oper.wp;rw[d3,Oper.upon_value];exact cE _ _ ⟨kW.trans sP,kX.trans tV,_,_,bC,(av.mono hc fun s i aE=>du _ _ (fun e=>by subst e;rw[pf.1 s] at aE;cases aE)).kY (fun e U=>by rw[sP];exact bv e U) (by simp only[cA,gS,d',dh,hz])⟩
      .exact h.elim
     .exact h.elim
    .exact h.elim
   .exact h.elim
  .rename_i u cv a6 aC
   split at h
   .rename_i my hx
    split at h
    .rename_i b9 tO xs ao v ys ak qA
     split at h
     .rename_i sN J' a8 sQ _ _;have sQ:=at1 sQ;subst sN J' sQ;obtain⟨bX,cJ,h⟩:=h;refine cN.bb h cJ ?_;rintro K' B' g1 g2 cK C a w ⟨sP,tV,ρ,F,al,av⟩ bv ga Q cE;have gz:aj B' my=_:=(g2 my aD3).trans ak;have aaG:aj B' cv=_:=(g2 cv aD3).trans qA;have hf:=cK d aD3;have pf:=ls hf;obtain⟨bj,jo,cs,dN,kp⟩:=al.holds my _ gz;obtain⟨kJ,ark,aaH,Qy,Qz⟩:=al.holds cv _ aaG;have hN:=gl.sA Qy;rw[<-av.own ((g1 y m2).trans aC)] at hN;obtain⟨dr,w',d3,b',en,e0⟩:=aaA bl ag d4 ee l4 U a6 (av.own ((g1 x m1).trans hx)) dN hN (aaB Qy.1 Qz) (by have:(og rfl xs).length=xs.length:=rfl;have:(og rfl ys).length=ys.length:=rfl;omega);obtain⟨pl,hz,ko⟩:=FT b'
      obtain⟨bC,hc⟩:=al.move (K:=K') (ch:=.row b9 tO (og rfl xs++og rfl ys)) gz hf (J9 en fun b O=>(bj b).2 O) pl (fun b=>dr.ownBlock=some b) (fun b O=>⟨by
        rcases e0 with e0 |e0
        .exact .inl ((bj b).2 (e0.symm.trans O))
        .rw[e0] at O;injection O with O;exact .inr aD1,(b'.lt b O).2⟩)
       (fun I hc a1=>⟨fun b=>by rw[hz],fun b O=>ko b (by rwa[hz] at O),cs++aaH,by rw[hz];simpa[og] using b',g7.uX (g7.mono hc kp) (g7.mono hc Qz) dN.1⟩)
      unfold Oper.wp;rw[d3,Oper.upon_value];exact cE _ _ ⟨kW.trans sP,kX.trans tV,_,_,bC,(av.mono hc fun s i aE=>du _ _ (fun e=>by subst e;rw[pf.1 s] at aE;cases aE)).kY (fun e U=>by rw[sP];exact bv e U) (by simp only[cA,gS,d',dh,hz])⟩
     .exact h.elim
    .exact h.elim
   .exact h.elim
  .exact h.elim
 .exact h.elim
def QA (s:aG9):Go.Lib.strCells ⟨s.toArray⟩=s.map ir:=by simp[Go.Lib.strCells,ir]
def aaI {w:aH5} {T e8 ty e:aI0} {i:aI9} (b8:P.underlying T=some (.slice e)) (a6:P.underlying e8=some .string) (aE:P.info? e=some i) (aN:i.zero=some (.int .u8 0)) (au:i.size=1) (O:i.bytes=1)
  {v:aI3} {n:Nat} {cs:aH4} (dN:w.ownsRow 0 e 1 v n cs) (s:aG9) (hn:n+s.length<=4294967296):
  ∃dr w',(Builtin.append_ #[T,e8] ty #[v,.string ⟨s.toArray⟩]).run P w= .ok dr w'/\w'.ownsRow 0 e 1 dr (n+s.length) (cs++s.map ir)/\w.grownBy w' v.ownBlock/\ ∀b,dr.ownBlock=some b->v.ownBlock=some b\/w.heap.size<=b:=by
 have cz:(⟨s.toArray⟩:aJ2).size=s.length:=x3 s;rcases dN.2 with⟨rfl,rfl⟩ |⟨g,cap,dm,rfl,-,aU,E9,Ak,fG,nG⟩
 .have aaJ:cs=[]:=aw8 (by simpa using dN.1);subst aaJ;obtain⟨dr,w',ax,G,ah,_⟩:=Go.Lib.run_append_own_string (P:=P) w w.heap.size T e8 ty e i b8 a6 aE aN au O (.slice none 0 0) 0 [] (World.ownsRow_nil w w.heap.size e 1) ⟨s.toArray⟩ (by rw[cz];simp only[maxLen];omega) aF7 (as2 _);rw[cz,QA] at G;refine⟨dr,w',ax,⟨G.1,?_⟩,ah,fun b O=>.inr ?_⟩
  .rcases G.2 with h |⟨g,cap,dm,az,_,r⟩
   .exact .inl h
   .exact .inr ⟨g,cap,dm,az,at2 _,r⟩
  .rcases G.2 with⟨h,_⟩ |⟨g,cap,dm,az,ww,r⟩
   .rw[h] at O;cases O
   .rw[az] at O;simp[Value.ownBlock] at O;omega
 .obtain⟨dr,w',ax,G,ah,_⟩:=Go.Lib.run_append_own_string (P:=P) w 0 T e8 ty e i b8 a6 aE aN au O (.slice (some ⟨g,0,none⟩) n cap) n cs dN ⟨s.toArray⟩ (by rw[cz];simp only[maxLen];omega) aF7 (at2 _);have tY:cs.length=n:=by simpa using dN.1
  refine⟨dr,w',ax,by rw[cz,QA] at G;exact G,ah,fun b dB=>?_⟩
  by_cases Cz:n+(⟨s.toArray⟩:aJ2).size<=cap
  .have sR:=Go.Lib.run_append_room_string (P:=P) w T e8 ty e i b8 a6 aE au g n cap dm aU ⟨s.toArray⟩ Cz aD1;rw[ax] at sR;injection sR with af ao
   rw[af] at dB;exact .inl dB
  .have holds: ∀j u,cs[j]? =some u->w.cell? ((⟨g,0,none⟩:Addr).add j)=some u:=dN.cells (g:=g) rfl;have sR:=Go.Lib.run_append_grow_string (P:=P) w T e8 ty e i (.int .u8 0) b8 a6 aE aN ⟨g,0,none⟩ n cap cs (by rw[au];simpa using tY) holds ⟨s.toArray⟩ aD1 aF7 (by rw[O];exact growslice_fits aD1 (by rw[cz];omega));rw[ax] at sR;injection sR with af ao
   rw[af] at dB;simp[Value.ownBlock] at dB;exact .inr aD1
def aaK (I:Nat->Prop) (w:aH5) (xs:aG9):g7 I w .u8 xs (xs.map ir):=fun i x hx=>by
 show(xs.map ir)[i*1+0]? =_;rw[Nat.mul_one,az5,au8,show xs[i]? =some x from hx];rfl
def aaL (bl:eq P aV) {T e8:aI0} {x y:aH8} {c:Call} (ag:o.op= .call c) (d4:c.callee= .builtin .append) (ee:c.args.toList=[x,y]) (l4:c.argTypes.toList=[T,e8])
  (h:JE aV T e8 (a7 K x) (a7 K y) o.dst ids K B k):cN P N ids o K B k:=by
 have mem: ∀aB∈ [x,y],aB∈o.op.operands:=fun aB aN=>by
  rw[ag];simp only[Op.operands,Call.operands,aA9];exact .inr (aB7.1 (by rw[ee];exact aN))
 have m1:=mem x aD3;have m2:=mem y aD3;unfold JE at h
 split at h
 .rename_i e te d U aaM H
  split at h
  .rename_i my s hx aC
   split at h
   .rename_i b9 xs rB ak
    split at h
    .rename_i sQ;have sQ:=at1 sQ;subst sQ;obtain⟨bX,cJ,h⟩:=h;obtain⟨b8,di,ds,bx⟩:=pS bl U;obtain⟨aaN,aaO⟩:=x5 bl rB;have eB:=FN bl aaM;refine cN.bb h cJ ?_;rintro K' B' g1 g2 cK C a w ⟨sP,tV,ρ,F,al,av⟩ bv ga Q cE;have gz:aj B' my=_:=(g2 my aD3).trans ak;have hf:=cK d aD3;have pf:=ls hf;have bd:=al.holds my _ gz;obtain⟨bj,jo,cs,dN,kp⟩:=bd;obtain⟨ti,jX,jd,oq,qC,gc,fk⟩:=aaO;obtain⟨aB,aN,wF⟩:=Qw oq qC
     have rC:aB= .int .u8 0:=by
      have E:=oq.P4 aB aN (by have:=oq.om;rw[aaN] at this;injection this with this;rw[<-this]);rw[E] at wF;simpa using wF
     rw[rC] at aN;obtain⟨dr,w',d3,b',en,e0⟩:=aaI (P:=P) (w:=w) (T:=T) (e8:=e8) (ty:=o.type) b8 eB oq.km aN (oq.size.trans gc) (oq.bytes.trans fk) (show w.ownsRow 0 b9 1 (ρ my).eS (List.length (α:=UInt8) xs) cs from dN) s bX;obtain⟨pl,hz,ko⟩:=FT b'
     obtain⟨bC,hc⟩:=al.move (K:=K') (ch:=.row b9 .u8 (List.append (α:=UInt8) xs s)) gz hf (J9 en fun b O=>(bj b).2 O) pl (fun b=>dr.ownBlock=some b) (fun b O=>⟨by
       rcases e0 b O with e0 |e0
       .exact .inl ((bj b).2 e0)
       .exact .inr e0,(b'.lt b O).2⟩)
      (fun I hc a1=>⟨fun b=>by rw[hz],fun b O=>ko b (by rwa[hz] at O),cs++s.map ir,by
       rw[hz];have:List.length (α:=aa .u8) (List.append (α:=UInt8) xs s)=List.length (α:=UInt8) xs+s.length:=as4;rw[this];exact b',g7.uX (u:=.u8) (g7.mono hc kp) (aaK _ _ s) dN.1⟩)
     have fM:c.args= #[x,y]:=ay1.1 ee;have jZ:c.argTypes= #[T,e8]:=ay1.1 l4;obtain⟨sO,args,cx⟩:=c;simp only at d4 fM jZ;subst d4 fM jZ;have dY:=av.own ((g1 x m1).trans hx);have eo:=av.str ((g1 y m2).trans aC)
     have u3:(execOp a.eval o).run P w= .ok (.value dr) w':=by
      unfold execOp;simp only[ag,resolve,invoke,builtin,aw5,ax2,au5,List.map_toArray,au1,aC3,dY,eo,d3]
     unfold Oper.wp;rw[u3,Oper.upon_value];exact cE _ _ ⟨kW.trans sP,kX.trans tV,_,_,bC,(av.mono hc fun s i aE=>du _ _ (fun e=>by subst e;rw[pf.1 s] at aE;cases aE)).kY (fun e U=>by rw[sP];exact bv e U) (by simp only[cA,gS,d',dh,hz])⟩
    .exact h.elim
   .exact h.elim
  .exact h.elim
 .exact h.elim
end
end
section
section
variable {P:aH6} {aV:dt} {N:Nat} {ids:aH0} {o:Oper} {K:aZ} {B:aA} {k:aS->fE->Prop}
def aaP {α:Type} (dm ys:List α) (off N:Nat) (h:off+ys.length<=N) (G:N<=dm.length):(dm.take off++ys++dm.drop (off+ys.length)).take N=(dm.take N).take off++ys++(dm.take N).drop (off+ys.length):=by
 rw[List.take_append,aw0 aE3,List.take_take,Nat.min_eq_left aD1,List.drop_take]
 congr 2
 simp;omega
def aaQ {w:aH5} {dT sT ty e:aI0} (a6:P.underlying dT=some (.slice e)) (cz:(P.info? e).map (·.size)=some 1) {v:aI3} {M off n dCap m:Nat} {cs ys:aH4} {ry:Option Addr} {iu:aI3} {D:Nat->Prop} {b9:aI0}
  (dN:w.ownsRow 0 b9 1 v M cs) (H:0 < n-> ∀g cap,v= .slice (some ⟨g,0,none⟩) M cap->M<=cap->ry=some ⟨g,off,none⟩) (lI:off+n<=M) (hN:gl D w 1 iu m ys) (E: ∀v∈ys,v.oneCell'=true):
  ∃x w',(Builtin.copy_ #[dT,sT] ty #[.slice ry n dCap,iu]).run P w= .ok x w'/\cZ (fun b=>v.ownBlock=some b) w w'/\w'.ownsRow 0 b9 1 v M (cs.take off++ys.take n++cs.drop (off+(ys.take n).length)):=by
 obtain⟨sp,E',rfl,ak,lz⟩:=Zb hN n;have gy:(ys.take n).length<=n:=by rw[at3];exact Nat.min_le_left _ _
 by_cases aw:(ys.take n).length=0
 .refine⟨_,w,run_copy_none (P:=P) w dT sT ty e ry sp n dCap m E' a6 cz (by rw[<-ak];exact aw),cZ.refl _ _,?_⟩;rw[aw8 aw];simpa using dN
 .obtain⟨ad,rfl,aaR⟩:=lz aD1;obtain⟨bX,dN⟩:=dN;rcases dN with⟨_,al⟩ |⟨g,cap,dm,az,O,aU,d4,ee,l4,QB⟩
  .omega
  .obtain rfl:=H aD1 g cap az d4;have QC:dm.toList.length=cap:=by simpa using l4
   rw[Nat.mul_one] at QB bX;refine⟨_,_,run_copy_row (P:=P) w dT sT ty e g off n dCap ad m E' dm b9 (ys.take n) a6 cz aU ak aaR (by rw[<-Array.length_toList];omega) (fun v az=>E v (List.mem_of_mem_take az)),FL (by rw[az];rfl),?_⟩;refine⟨by simp only[as4,at3,ax4,Nat.mul_one] at*;omega,.inr ⟨g,cap,_,az,O,setRow_heap w g _ _ b9 _ aU,d4,ee,by simp only[List.size_toArray,as4,at3,ax4,Nat.mul_one] at*;omega,?_⟩⟩;rw[Nat.mul_one];show List.take M (dm.toList.take off++ys.take n++dm.toList.drop (off+(ys.take n).length))=_;rw[aaP _ _ _ _ aD1 aD1,QB]
def Ka (xs ys:aG9) {off n:Nat} (h:off+n<=xs.length):(laid xs off n ys).length=xs.length:=by simp only[laid,as4,at3,ax4];omega
def aaS (xs ys:aG9) (off n:Nat):List.take off (xs.map ir)++List.take n (ys.map ir)++List.drop (off+(List.take n (ys.map ir)).length) (xs.map ir)=(laid xs off n ys).map ir:=by simp only[laid,aw2,List.map_take,List.map_drop,at3,at8]
def aaT {I:Nat->Prop} {w:aH5} {xs:aG9} {cs:aH4} (h:g7 I w .u8 xs cs) (ak:cs.length=xs.length):cs=xs.map ir:=by
 refine aA3 fun i=>?_
 rw[au8]
 cases hx:xs[i]? with
 |none=>
  have:=List.getElem?_eq_none_iff.1 hx;rw[List.getElem?_eq_none_iff.2 aD1];rfl
 |some x=>
  have G:=h i x hx;simpa[cw,aR,ir] using G
def aaU (I:Nat->Prop) (w:aH5) (xs:aG9):g7 I w .u8 xs (xs.map ir):=fun i x hx=>by
 have hx:xs[i]? =some x:=hx;simp[cw,aR,hx];rfl
def aaV {I:Nat->Prop} {w:aH5} {v:aI3} {l:aG9} (a1: ∀b,I b->b < w.heap.size) (h:cw I w (.cc .u8) l (fun _=>some v)):gl I w 1 v l.length (l.map ir):=by
 obtain⟨A,cap,aw,E,G,ah⟩:=h;injection aw with aw
 refine⟨aD3,A,cap,aw,E,G,fun ae=>?_⟩;obtain⟨b,o,dX,O,hx⟩:=ah ae;refine⟨b,o,dX,O,a1 b O,fun j u a6=>?_⟩;rw[au8] at a6;obtain⟨x,CA,rfl⟩:=aw3.1 a6;have:=hx j x CA;simpa[cw,aR,ir] using this
def bD.aaW {c:Nat} {cG ch:ba} (J:aj B c=some cG)
  (h: ∀(K':aZ) (B':aA),(∀x,x∈o.op.operands->a7 K' x=a7 K x)-> ∀(C:fv) (ρ:Nat->bq) (F:Nat->Nat->Prop) (a:Act) (w:aH5),Mem ids C B' ρ F w->eF K' ρ (b5 C B' F w) a w->aj B' c=some cG-> ∃x w',(execOp a.eval o).run P w= .ok (.value x) w'/\cZ (F c) w w'/\
   (∀I,cp (b5 C B' F w) w I w'->Holds ρ I (F c) w' (ρ c) ch)):
  bD P N ids o K B (.c (.one .any)) ⟨[c],[],[(c,some ch)]⟩:=by
 rintro K' B' E G - C a w ⟨hn,H,ρ,F,al,av⟩ bv ga Q cE;have cW:aj B' c=some cG:=(G c aD3).trans J;obtain⟨x,w',hx,cJ,c4⟩:=h K' B' E C ρ F a w al av cW;obtain⟨bC,U⟩:=al.h8 cW cJ c4;unfold Oper.wp;rw[hx,Oper.upon_value];exact cE _ _ ⟨kW.trans hn,kX.trans H,ρ,F,bC,(av.mono U fun _ _ _=>rfl).kY (fun e U=>by rw[hn];exact bv e U) trivial⟩
def QD (bl:eq P aV) {T e8 e:aI0} {te:cd} {x y:aH8} {c:Call} {d off n:Nat} {ys:aG9} (ag:o.op= .call c) (d4:c.callee= .builtin .copy) (ee:c.args.toList=[x,y]) (l4:c.argTypes.toList=[T,e8]) (U:elemOf aV T=some (e,te)) (iH:rv aV e=true) (aC:a7 K y= .c (.one (.d (.bG .u8 ys))))
  (hx: ∀(K':aZ) (ρ:Nat->bq) (I:Nat->Prop) (a:Act) (w:aH5),eF K' ρ I a w->a7 K' x=a7 K x-> ∀(M:Nat),(ρ d).n=M->(∀e xs,aj B d=some (.row e .u8 xs)->List.length xs=M)->off+n<=M-> ∃ry dCap,a.eval x= .slice ry n dCap/\(0 < n-> ∀g cap,(ρ d).eS= .slice (some ⟨g,0,none⟩) M cap->M<=cap->ry=some ⟨g,off,none⟩))
  (h:Fx d off n ys B k):cN P N ids o K B k:=by
 have fM:c.args= #[x,y]:=ay1.1 ee;have jZ:c.argTypes= #[T,e8]:=ay1.1 l4;obtain⟨sO,args,cx⟩:=c;simp only at d4 fM jZ;subst d4 fM jZ;have m1:x∈o.op.operands:=aE2
 have m2:y∈o.op.operands:=aE2
 obtain⟨a6,di,ds,bx⟩:=pS bl U;obtain⟨_,arl,i8,d8,QE,_,aaX,_⟩:=x5 bl iH;have cz:(P.info? e).map (·.size)=some 1:=by rw[QE.km];simp[QE.size,aaX]
 unfold Fx at h
 split at h
 .rename_i b9 xs ak;obtain⟨lI,h⟩:=h;refine cN.of h <| bD.aaW ak fun K' B' E C ρ F a w al av gz=>?_
  obtain⟨bj,ko,cs,dN,kp⟩:=al.holds d _ gz;have Ql:=dN;obtain⟨dW,A,cap,az,_,_,_⟩:=gl.sA Ql;have hn:(ρ d).n=xs.length:=by unfold bq.eS at az;injection az
  have fG:cs=xs.map ir:=aaT kp (by have:=dW;simp[aR] at this;exact this);obtain⟨ry,dCap,aaY,sS⟩:=hx K' ρ _ a w av (E x m1) _ hn (fun ao arm G=>by rw[ak] at G;cases G;rfl) lI;have aaZ:=aaV (fun b O=>O.1) (av.bG ((E y m2).trans aC));obtain⟨r,w',d3,cJ,gm⟩:=aaQ (P:=P) (w:=w) (dT:=T) (sT:=e8) (ty:=o.type) a6 cz (dCap:=dCap) dN sS lI aaZ (PA _);refine⟨r,w',?_,cJ.mono fun b _ O=>(bj b).2 O,fun I a2=>⟨bj,ko,List.take off cs++List.take n (List.map ir ys)++List.drop (off+(List.take n (List.map ir ys)).length) cs,?_,?_⟩⟩
  .simp[execOp,ag,resolve,invoke,builtin,aaY,d3]
  .have bo:List.length (α:=aa .u8) (laid xs off n ys)=List.length (α:=aa .u8) xs:=Ka xs ys lI;show w'.ownsRow 0 b9 1 (ρ d).eS (List.length (α:=aa .u8) (laid xs off n ys)) _;rw[bo];exact gm
  .rw[fG];have af:=aaS xs ys off n;rw[af];exact aaU I w' _
 .exact h.elim
def aa0 (bl:eq P aV) {T e8:aI0} {x y:aH8} {c:Call} (ag:o.op= .call c) (d4:c.callee= .builtin .copy) (ee:c.args.toList=[x,y]) (l4:c.argTypes.toList=[T,e8]) (h:JM aV T (a7 K x) (a7 K y) B k):cN P N ids o K B k:=by
 unfold JM at h
 split at h
 .rename_i e te U
  split at h
  .rename_i ys iH aC
   split at h
   .rename_i d hx
    split at h
    .rename_i b9 xs ak;refine QD bl ag d4 ee l4 U iH aC (fun K' ρ I a w av Z M al pT lI=>⟨(ρ d).A,(ρ d).cap,?_,fun ae g cap az _=>?_⟩) h
     .have:=av.own (Z.trans hx);rw[this,pT b9 xs ak,<-al];rfl
     .unfold bq.eS at az;injection az
    .exact h.elim
   .rename_i d s off n hx
    split at h
    .rename_i au;have:=at1 au;subst this;refine QD bl ag d4 ee l4 U iH aC (fun K' ρ I a w av Z M al pT lI=>⟨_,_,av.os (Z.trans hx),fun ae g cap az arn=>?_⟩) h;unfold bq.eS at az;injection az with af ao bo
     rw[mu aD1,af,ay7,qt];simp
    .exact h.elim
   .exact h.elim
  .exact h.elim
 .exact h.elim
end
end
section
section
variable {P:aH6} {aV:dt} {N:Nat} {ids:aH0} {o:Oper} {K:aZ} {B:aA} {k:aS->fE->Prop}
def k3: ∀{aJ:aA} {B:aA},lq B aJ-> ∀{c ch},aj aJ c=some ch->aj B c=some ch
 | [],B,h,c,ch,J=>by cases J
 |(d,x)::aJ,B,h,c,ch,J=>by
  rw[ci] at J
  split at J
  .rename_i e;subst e;injection J with J
   subst J;exact h.1
  .exact k3 h.2 J
def gL: ∀{B:aA} {c:Nat},c∈ct B↔ ∃ch,aj B c=some ch
 | [],c=>by simp[ct,aj]
 |(d,x)::B,c=>by
  simp only[ct,as8,ci]
  by_cases e:d=c
  .subst e;simp
  .rw[mu e];constructor
   .rintro(h |h)
    .exact as3 h.symm e
    .exact gL.1 h
   .exact fun h=>.inr (gL.2 h)
def Kb: ∀{aJ:aA} {bb:aH0} {aT:aA},m0 aJ bb aT=true-> ∀{c},c∈ct aT->c∈ct aJ\/c∈bb
 |aJ,bb,[],h,c,J=>by simp[ct] at J
 |aJ,bb,(d,x)::aT,h,c,J=>by
  simp only[m0,as1,ay3,av4] at h;rcases as8.1 J with rfl |J
  .exact h.1.1
  .exact Kb h.2 J
def QF: ∀(aT:aA) (aJ:aA) (bb:aH0) (B:aA),m0 aJ bb aT=true-> ∀c,aj (hy (iW [] aT) B) c=(match aj aT c with |some ch=>some ch |none=>aj B c)
 | [],_,_,B,_,c=>by simp[iW,Jx,hy,aj]
 |(d,x)::aT,aJ,bb,B,h,c=>by
  simp only[m0,as1,au9] at h;show aj (hy (iW [] aT) ((d,x)::B)) c=_;rw[QF aT aJ bb ((d,x)::B) h.2 c,ci,ci]
  by_cases e:d=c
  .subst e
   have hn:aj aT d=none:=by
    cases ak:aj aT d with
    |none=>rfl
    |some ch=>
     have:=gL.2 ⟨ch,ak⟩;have G:=h.1.2;rw[<-aD0,av4] at G;exact as3 this G
   rw[hn,vj rfl,vj rfl]
  .rw[mu e,mu e]
def FU: ∀(aJ:aA) (nH:aA) (bb:aH0) (aT B:aA),m0 nH bb aT=true-> ∀c,aj (hy (iW aJ aT) B) c=(match aj aT c with |some ch=>some ch |none=>if c∈ct aJ then none else aj B c)
 | [],nH,bb,aT,B,h,c=>by
  rw[QF aT nH bb B h c];simp[ct]
 |(d,x)::aJ,nH,bb,aT,B,h,c=>by
  simp only[iW,hy];rw[FU aJ nH bb aT (g8 B d) h c,hM]
  cases aj aT c with
  |some ch=>rfl
  |none=>
   simp only[ct,as8]
   by_cases e:d=c
   .subst e;simp
   .by_cases ao:c∈ct aJ
    .simp[ao]
    .simp[e,ao,ay4 e]
def FV: ∀{bb:aH0},sF ids K B bb=true-> ∀c,c∈bb->hk ids K B c=true
 | [],_,c,J=>by cases J
 |d::bb,h,c,J=>by
  simp only[sF,as1] at h;rcases as8.1 J with rfl |J
  .exact h.1.1
  .exact FV h.2 c J
def QG {ev:Operand->Value} {f:aI5} {c:Call} {xs:aJ4} {w:aH5} (hf:jU P f=true) (ag:o.op= .call c) (E:c.callee= .value (.func f)) (G:c.args.toList=xs) (u6:ev (.func f)= .func (.func f) #[] #[]):(execOp ev o).run P w= .ok (.enter f (xs.map ev).toArray) w:=by
 have fM:c.args=xs.toArray:=by rw[<-G]
 obtain⟨sO,args,cx⟩:=c;simp only at E fM;subst E fM;unfold jU at hf
 split at hf
 .rename_i fn jF;simp only[au9,ax0,beq_eq_false_iff_ne] at hf;have G: ¬fn.body=none:=fun e=>by rw[e] at hf;simp at hf
  simp[execOp,ag,resolve,invoke,u6,Deferred.ofValue,callFunc,go_sem,jF];rw[mu hf.1,mu G]
 .cases hf
def Al {xs:aJ4} (mem: ∀aB∈xs,aB∈o.op.operands) {K':aZ} {ρ:Nat->bq} {I:Nat->Prop} {a:Act} {w:aH5} (g1: ∀x,x∈o.op.operands->a7 K' x=a7 K x) (av:eF K' ρ I a w) (i:Nat) (v:aS) (x:aI3) (az:(xs.map (a7 K))[i]? =some v) (hx:(xs.map a.eval)[i]? =some x):cA ρ I w v x:=by
 rw[au8] at az hx
 cases aE:xs[i]? with
 |none=>rw[aE] at az;cases az
 |some aB=>
  rw[aE] at az hx;simp only[ay7,as9] at az hx;subst az hx;rw[<-g1 aB (mem aB (ax6 aE))];exact av.get aB
def CB {f:aI5} {args:List aS} {xs:aJ4} (mem: ∀aB∈xs,aB∈o.op.operands)
  (u3: ∀(K':aZ) (ρ:Nat->bq) (I:Nat->Prop) (a:Act) (w:aH5),(∀x,x∈o.op.operands->a7 K' x=a7 K x)->eF K' ρ I a w-> ∃bZ:List Value,(jU P f=true->(execOp a.eval o).run P w= .ok (.enter f bZ.toArray) w)/\bZ.length=args.length/\ ∀(i:Nat) (v:aS) (x:aI3),args[i]? =some v->bZ[i]? =some x->cA ρ I w v x)
  (h:xV P f args ids K B k):cN P N ids o K B k:=by
 obtain⟨aJ,bb,res,aT,⟨gf,jF⟩,ib,bx,h⟩:=h;rw[sD] at h;simp only[as1] at bx;have ot:=bx.2;refine⟨_,_,h,?_,FV bx.1⟩;rintro K' B' g1 g2 cK C a w ⟨hn,H,ρ,F,al,av⟩ bv ga Q cE;have e': ∀{c ch},aj aJ c=some ch->aj B' c=some ch:=fun {c ch} J=>(g2 c (gL.2 ⟨ch,J⟩)).trans (k3 ib J)
 have pf: ∀c∈bb,(∀s,(dR K' s).has c=false)/\aj B' c=none/\(∀d ch,aj B' d=some ch->ch.has c=false)/\c∉ids:=fun c J=>ls (cK c J)
 obtain⟨bZ,d3,rD,tZ⟩:=u3 K' ρ _ a w g1 av
 have J:=jF ρ F (b5 C B' F w) w bZ (fun b O=>O.1) (fun c ch J=>al.holds c ch (e' J)) (fun c ch J b O=>⟨(al.own c ch (e' J) b O).1,fun a1=>a1.2.2 c ch (e' J) O⟩)
  (fun c ca ch ch' b E G=>al.fw c ca ch ch' b (e' E) (e' G)) rD tZ
 unfold Oper.wp;rw[d3 gf,Oper.upon_enter];refine J.mono ?_;rintro e w' ⟨x,ρ',F',rfl,cJ,dA,I',jG,gM,c4,aq,ix,dI⟩;have CC: ∀c,aj (hy (iW aJ aT) B') c=(match aj aT c with |some ch=>some ch |none=>if c∈ct aJ then none else aj B' c):=FU aJ aJ bb aT B' ot
 have pU: ∀c ch,aj (hy (iW aJ aT) B') c=some ch->aj aT c=some ch\/(aj aT c=none/\c∉ct aJ/\aj B' c=some ch):=fun c ch J=>by
  rw[CC] at J
  cases O:aj aT c with
  |some ch'=>rw[O] at J;exact .inl J
  |none=>
   rw[O] at J;simp only at J
   split at J
   .cases J
   .rename_i Z;exact .inr ⟨rfl,Z,J⟩
 let cU:Nat->Nat->Prop:=fun c=>if c∈ct aT then F' c else F c
 have kJ: ∀c ch,aj aT c=some ch->cU c=F' c:=fun c ch J=>vj (gL.2 ⟨ch,J⟩)
 have CD: ∀c,aj aT c=none->cU c=F c:=fun c J=>mu (fun Z=>by
  obtain⟨ch,h⟩:=gL.1 Z;rw[J] at h;cases h)
 have k4: ∀c ch,aj aT c=some ch->c∈ct aJ\/c∈bb:=fun c ch J=>Kb ot (gL.2 ⟨ch,J⟩)
 have u7: ∀c ch,aj (hy (iW aJ aT) B') c=some ch->(c∈ct aJ\/c∈bb)->aj aT c=some ch:=fun c ch J bC=>by
  rcases pU c ch J with h |⟨E,G,ah⟩
  .exact h
  .rcases bC with h |h
   .exact as3 h G
   .rw[(pf c h).2.1] at ah;cases ah
 have sU:cp I' w' (b5 C (hy (iW aJ aT) B') cU w') w':=fun b O=>by
  obtain⟨af,ao⟩:=gM b O;refine⟨⟨af,?_,fun c ch J bj=>?_⟩,rfl⟩
  .rcases ao with ao |⟨c,ch,ao,bo⟩ |ao
   .exact ao.2.1
   .exact .inr ((al.own c ch (e' ao) b bo).2)
   .exact .inr (.inr (al.fresh ao))
  .rcases pU c ch J with h |⟨E,G,ah⟩
   .rw[kJ c ch h] at bj;exact(aq c ch h b bj).2.1 O
   .rw[CD c E] at bj;rcases ao with ao |⟨d,ch',ao,bo⟩ |ao
    .exact ao.2.2 c ch ah bj
    .exact al.fw d c ch' ch b (e' ao) ah (fun e=>G (e▸gL.2 ⟨ch',ao⟩)) bo bj
    .have:=(al.own c ch ah b bj).1;omega
 obtain⟨bC,a2⟩:=al.step (B':=hy (iW aJ aT) B') (ρ':=ρ') (F':=cU) (w':=w') (fun c=>c∈ct aJ\/c∈bb) (fun c=>c∈bb)
  (cJ.mono fun b _ ⟨c,ch,E,G⟩=>⟨c,ch,e' E,.inl (gL.2 ⟨ch,E⟩),G⟩)
  (fun c ch J hn=>by
   rcases pU c ch J with h |⟨_,_,ah⟩
   .exact as3 (k4 c ch h) hn
   .exact ah)
  dA
  (fun c hn=>by
   cases O:aj aT c with
   |none=>exact CD c O
   |some ch=>exact as3 (k4 c ch O) hn)
  (fun c J hn=>(pf c hn).2.2.2 J) (fun c h=>.inr h)
  (fun c ch J _ d H hn=>by rw[(pf d hn).2.2.1 c ch J] at H;cases H)
  (fun c ch J bC _=>by
   have O:=u7 c ch J bC;rw[kJ c ch O];exact Holds.cr sU (fun _ _=>rfl) (as2 _) ch (fun _ _=>rfl) (c4 c ch O))
  (fun c ch J bC b O=>by
   have x9:=u7 c ch J bC;rw[kJ c ch x9] at O;obtain⟨af,_,bo⟩:=aq c ch x9 b O;refine⟨af,bo.imp (fun⟨g9,cG,E,G⟩=>⟨g9,cG,e' E,.inl (gL.2 ⟨cG,E⟩),G⟩) id⟩)
  (fun c ca ch ch' b J cW k4 je a8 O dB=>by
   have E:=u7 c ch J k4;have G:=u7 ca ch' cW je;rw[kJ c ch E] at O;rw[kJ ca ch' G] at dB;exact ix c ca ch ch' b E G a8 O dB)
 refine cE _ _ ⟨kW.trans hn,kX.trans H,ρ',cU,bC,(av.mono a2 fun s d H=>dA d fun hn=>by rw[(pf d hn).1 s] at H;cases H).kY (fun e U=>by rw[hn];exact bv e U) (cA.mono sU _ _ (fun _ _=>rfl) dI)⟩
def QH {f:aI5} {c:Call} {xs:aJ4} (ag:o.op= .call c) (E:c.callee= .value (.func f)) (G:c.args.toList=xs) (h:xV P f (xs.map (a7 K)) ids K B k):cN P N ids o K B k:=by
 have mem: ∀aB∈xs,aB∈o.op.operands:=fun aB aN=>by
  rw[ag];simp only[Op.operands,Call.operands,aA9];exact .inr (aB7.1 (by rw[G];exact aN))
 exact CB mem (fun K' ρ I a w g1 av=>⟨xs.map a.eval,fun gf=>QG gf ag E G rfl,aD3,Al mem g1 av⟩) h
def QI {ρ:Nat->bq} {I:Nat->Prop} {w:aH5}: ∀(aF:List aS) (l:List lo) (us:aH4),xX aF=some l->us.length=aF.length->(∀(i:Nat) (v:aS) (x:aI3),aF[i]? =some v->us[i]? =some x->cA ρ I w v x)->h7 ρ I w l us
 | [],l,us,h,ak,_=>by
  simp only[xX,as9] at h;subst h;exact aw8 ak
 |v::aF,l,[],h,ak,_=>by simp at ak
 |v::aF,l,u::us,h,ak,H=>by
  have bn:=fun r ax=>QI aF r us ax aG7 (fun i v x az hx=>H (i+1) v x aF3 aG5)
  have aw:=H 0 v u rfl rfl;unfold xX at h
  split at h
  .rename_i e;simp at e
  .rename_i c o sJ e;injection e with af ao
   subst af ao
   split at h
   .rename_i r ax;injection h with h
    subst h;exact⟨u,us,rfl,aw,bn r ax⟩
   .cases h
  .rename_i x sJ e;injection e with af ao
   subst af ao
   split at h
   .rename_i r ax;injection h with h
    subst h;exact⟨u,us,rfl,aw,bn r ax⟩
   .cases h
  .cases h
def aa1 {f:aI5} {fs cs:Array Operand} (ag:o.op= .makeFunc (.func f) fs cs) (h:match fs.toList,xX (cs.toList.map (a7 K)) with
  | [],some l=>k (.c (.one (.c3 f l))) bK
  |_,_=>False):cN P N ids o K B k:=by
 split at h
 .rename_i l wG ak
  have mem: ∀aB∈cs.toList,aB∈o.op.operands:=fun aB aN=>by
   rw[ag];simp only[Op.operands,aA9];exact .inr (aB7.1 aN)
  refine cN.of h <| bD.val fun K' B' g1 g2 C ρ F a w al av=>?_
  have aa2:fs= #[]:=Array.toList_eq_nil_iff.1 wG
  refine⟨.func (.func f) #[] (List.toArray (cs.toList.map a.eval)),(by
   have e:cs.map a.eval=List.toArray (cs.toList.map a.eval):=ay1.1 aD3;simp[execOp,ag,Instr.makeFunc,aa2,e]),_,rfl,?_⟩
  exact QI _ l _ ak aD3 (Al mem g1 av)
 .exact h.elim
def Kc {ev:Operand->Value} {f:aI5} {c:Call} {x:aH8} {xs:aJ4} {cs:aH4} {w:aH5} (hf:jU P f=true) (ag:o.op= .call c) (E:c.callee= .value x) (G:c.args.toList=xs) (u6:ev x= .func (.func f) #[] (List.toArray cs)):(execOp ev o).run P w= .ok (.enter f (xs.map ev++cs).toArray) w:=by
 have fM:c.args=xs.toArray:=by rw[<-G]
 obtain⟨sO,args,cx⟩:=c;simp only at E fM;subst E fM;unfold jU at hf
 split at hf
 .rename_i fn jF;simp only[au9,ax0,beq_eq_false_iff_ne] at hf;have G: ¬fn.body=none:=fun e=>by rw[e] at hf;simp at hf
  simp[execOp,ag,resolve,invoke,u6,Deferred.ofValue,callFunc,go_sem,jF];rw[mu hf.1,mu G]
 .cases hf
def h7.bZ {ρ:Nat->bq} {I:Nat->Prop} {w:aH5}: ∀(l:List lo) (aF:aH4),h7 ρ I w l aF->aF.length=(o8 l).length/\ ∀(i:Nat) (v:aS) (x:aI3),(o8 l)[i]? =some v->aF[i]? =some x->cA ρ I w v x
 | [],aF,h=>by rw[show aF=[] from h];exact⟨rfl,fun i v x az=>by simp[o8] at az⟩
 | .p c o::l,_,⟨v,r,e,E,G⟩=>by
  subst e;obtain⟨g1,g2⟩:=h7.bZ l r G;refine⟨by simp[o8,g1],fun i u x a6 hx=>?_⟩
  match i with
  |0=>
   simp only[o8,at9,as9] at a6 hx;subst a6 hx;exact E
  |i+1=>exact g2 i u x (by simpa[o8] using a6) aG5
 | .d y::l,_,⟨v,r,e,E,G⟩=>by
  subst e;obtain⟨g1,g2⟩:=h7.bZ l r G;refine⟨by simp[o8,g1],fun i u x a6 hx=>?_⟩
  match i with
  |0=>
   simp only[o8,at9,as9] at a6 hx;subst a6 hx;exact E
  |i+1=>exact g2 i u x (by simpa[o8] using a6) aG5
def aa3 {f:aI5} {c:Call} {t:Nat} {l:List lo} {xs:aJ4} (ag:o.op= .call c) (E:c.callee= .value (.tmp t)) (G:c.args.toList=xs) (ak:dR K t= .c (.one (.c3 f l))) (h:xV P f (xs.map (a7 K)++o8 l) ids K B k):cN P N ids o K B k:=by
 have mem: ∀aB∈xs,aB∈o.op.operands:=fun aB aN=>by
  rw[ag];simp only[Op.operands,Call.operands,aA9];exact .inr (aB7.1 (by rw[G];exact aN))
 have x':Operand.tmp t∈o.op.operands:=by
  rw[ag];simp only[Op.operands,Call.operands,aA9,E];exact .inl aD3
 refine CB mem (fun K' ρ I a w g1 av=>?_) h;have az:=av (t);have Z:dR K' t=dR K t:=g1 (.tmp t) x';rw[Z,ak] at az;obtain⟨aF,e,J⟩:=az;obtain⟨cB,cH⟩:=h7.bZ l aF J;refine⟨xs.map a.eval++aF,fun gf=>Kc gf ag E G e,by simp[cB],fun i v x az hx=>?_⟩
 by_cases aE:i < xs.length
 .rw[au7 (by simpa using aE)] at az hx;exact Al mem g1 av i v x az hx
 .rw[au6 aE3] at az hx;simp only[at8] at az hx;exact cH _ v x az hx
def QJ: ∀bs:aH0,(rq bs).length=(uS bs).length
 | []=>rfl
 |b::l=>by simp[rq,uS,QJ l]
def QK {ρ:Nat->bq} {I:Nat->Prop} {w:aH5}: ∀(bs:aH0) (i:Nat) (u:aS) (x:aI3),(uS bs)[i]? =some u->(rq bs)[i]? =some x->cA ρ I w u x
 | [],i,u,x,a6,_=>by simp[uS] at a6
 |b::l,0,u,x,a6,hx=>by
  simp only[uS,rq,at9,as9] at a6 hx;subst a6 hx;exact rfl
 |b::l,i+1,u,x,a6,hx=>by
  simp only[uS,rq,aC5] at a6 hx;exact QK l i u x a6 hx
def aa4 {c:Call} {t:Nat} {y:Nat×aH0} {xs:aJ4} (ag:o.op= .call c) (E:c.callee= .value (.tmp t)) (G:c.args.toList=xs) (ak:dR K t= .c (.one (.d (.fn y)))) (h:xV P y.1 (xs.map (a7 K)++uS y.2) ids K B k):cN P N ids o K B k:=by
 have mem: ∀aB∈xs,aB∈o.op.operands:=fun aB aN=>by
  rw[ag];simp only[Op.operands,Call.operands,aA9];exact .inr (aB7.1 (by rw[G];exact aN))
 have x':Operand.tmp t∈o.op.operands:=by
  rw[ag];simp only[Op.operands,Call.operands,aA9,E];exact .inl aD3
 refine CB mem (fun K' ρ I a w g1 av=>?_) h;have az:=av (t);have Z:dR K' t=dR K t:=g1 (.tmp t) x';rw[Z,ak] at az;have e:a.tmps.getD t undef= .func (.func y.1) #[] (List.toArray (rq y.2)):=az;refine⟨xs.map a.eval++rq y.2,fun gf=>Kc gf ag E G e,by simp[QJ],fun i v x az hx=>?_⟩
 by_cases aE:i < xs.length
 .rw[au7 (by simpa using aE)] at az hx;exact Al mem g1 av i v x az hx
 .rw[au6 aE3] at az hx;simp only[at8] at az hx;exact QK _ _ v x az hx
def aa5 (bl:eq P aV) {T:aI0} {x:aH8} {c:Call} (ag:o.op= .call c) (d4:c.callee= .builtin .len) (ee:c.args.toList=[x]) (l4:c.argTypes.toList=[T]) (h:match JA aV T B (a7 K x) with
  |some (n,jE)=>k (.c (.one (.d (.int .i64 (n:Int))))) ⟨jE,[],[]⟩
  |none=>False):cN P N ids o K B k:=by
 have fM:c.args= #[x]:=ay1.1 ee;have jZ:c.argTypes= #[T]:=ay1.1 l4;obtain⟨sO,args,cx⟩:=c;simp only at d4 fM jZ;subst d4 fM jZ;have m1:x∈o.op.operands:=aE2
 have run: ∀{ev:Operand->Value} {w:aH5} {A:Option Addr} {n cap:Nat} {e:Nat},ev x= .slice A n cap->P.underlying T=some (.slice e)->(execOp ev o).run P w= .ok (.value (.int .i64 (n:Int))) w:=fun {ev w A n cap e} E cm=>by
  simp[execOp,ag,E,resolve,invoke,builtin,Builtin.len_,run_underlying cm,goInt]
 split at h
 .rename_i n jE hn;refine cN.of h ?_;unfold JA at hn
  split at hn
  .rename_i s hx
   split at hn
   .rename_i b8;injection hn with hn
    injection hn with af ao
    subst af ao;refine bD.one hx m1 fun K' ρ I a w av e=>⟨_,?_,rfl⟩
    simp[execOp,ag,av.str e,resolve,invoke,builtin,Builtin.len_,run_underlying (FN bl b8),goInt,x3]
   .cases hn
  .rename_i u xs hx
   split at hn
   .rename_i p U;obtain⟨a6,_⟩:=pS bl (e:=p.1) (te:=p.2) U;injection hn with hn
    injection hn with af ao
    subst af ao;refine bD.one hx m1 fun K' ρ I a w av e=>?_
    obtain⟨A,cap,bo,_⟩:=av.bG e;injection bo with bo
    exact⟨_,run bo a6,rfl⟩
   .cases hn
  .rename_i hx
   split at hn
   .rename_i p U;obtain⟨a6,_⟩:=pS bl (e:=p.1) (te:=p.2) U;injection hn with hn
    injection hn with af ao
    subst af ao;exact bD.one hx m1 fun K' ρ I a w av e=>⟨_,run (av.dV e) a6,rfl⟩
   .cases hn
  .rename_i my hx
   split at hn
   .rename_i p U;obtain⟨a6,_⟩:=pS bl (e:=p.1) (te:=p.2) U
    split at hn
    .rename_i b9 u xs ak;injection hn with hn
     injection hn with af ao
     subst af ao;refine bD.val fun K' B' g1 g2 C ρ F a w al av=>?_
     obtain⟨bj,ko,cs,dN,_⟩:=al.holds my _ ((g2 my aD3).trans ak);have dY:=av.own ((g1 x m1).trans hx);obtain⟨_,A,cap,az,_⟩:=gl.sA dN;exact⟨_,run (dY.trans az) a6,rfl⟩
    .cases hn
   .cases hn
  .rename_i my hx
   split at hn
   .rename_i p b8
    split at hn
    .rename_i aI aK es ak;injection hn with hn
     injection hn with af ao
     subst af ao;refine bD.val fun K' B' g1 g2 C ρ F a w al av=>?_
     obtain⟨bj,bV,bY,O,ay,cQ⟩:=al.holds my _ ((g2 my aD3).trans ak);have dY:=av.mp ((g1 x m1).trans hx);refine⟨.int .i64 (es.length:Int),?_,rfl⟩;rw[<-Ch ay];simp[execOp,ag,dY,resolve,invoke,builtin,Builtin.len_,run_underlying (FQ bl (kt:=p.1) (et:=p.2) b8),goInt,ay2 O]
    .cases hn
   .cases hn
  .cases hn
 .exact h.elim
def QL {x y:aH8} {c:Call} {bi:Builtin} (u9:bi= .min\/bi= .max) (ag:o.op= .call c) (d4:c.callee= .builtin bi) (ee:c.args.toList=[x,y]) (h:match a7 K x,a7 K y with
  | .c (.one (.d (.int .i64 a))),.c (.one (.d (.int .i64 b)))=>k (.c (.one (.d (.int .i64 (if bi= .min then min a b else max a b))))) bK
  |_,_=>False):cN P N ids o K B k:=by
 have fM:c.args= #[x,y]:=ay1.1 ee;obtain⟨sO,args,cx⟩:=c;simp only at d4 fM;subst d4 fM;have m1:x∈o.op.operands:=aE2
 have m2:y∈o.op.operands:=aE2
 split at h
 .rename_i a b hx aC;refine cN.of h <| bD.two hx aC m1 m2 fun K' ρ I fx w av af ao=>⟨_,?_,rfl⟩
  rcases u9 with rfl |rfl
  .have e:(if b < a then b else a)=min a b:=by rw[Int.min_def];split <;>split <;>omega
   simp[execOp,ag,av.int af,av.int ao,resolve,invoke,builtin,run_min_int2,e]
  .have e:(if b >a then b else a)=max a b:=by rw[Int.max_def];split <;>split <;>omega
   simp only[gt_iff_lt] at e;simp[execOp,ag,av.int af,av.int ao,resolve,invoke,builtin,run_max_int2,e]
 .exact h.elim
def mx.bool {P:aH6} {T:Nat} {ti:cd} {i:aI9} {d:aJ1} (h:mx P T ti i d) (Z:ti.kd= .bool):P.underlying T=some .bool:=by
 have:=h.kd;rw[Z] at this;rw[h.om]
 cases d <;>simp[tQ] at this⊢
def QM (bl:eq P aV) {T:Nat} (h:Ft aV T=true):P.underlying T=some .bool:=by
 unfold Ft at h
 split at h
 .rename_i ti gT
  split at h
  .rename_i Z;obtain⟨_,_,bx⟩:=bl.at_ gT;exact bx.bool Z
  .cases h
 .cases h
def QN (bl:eq P aV) {T:Nat} (h:Jy aV T=true): ∃e,P.underlying T=some (.pointer e):=by
 unfold Jy at h
 split at h
 .rename_i ti gT
  split at h
  .rename_i e Z;obtain⟨_,_,bx⟩:=bl.at_ gT;exact⟨e,bx.ptr Z⟩
  .cases h
 .cases h
def QO (bl:eq P aV) {T:Nat} (h:z6 aV T=true): ∃e i,P.underlying T=some (.pointer e)/\P.info? e=some i/\i.size≠0:=by
 unfold z6 at h
 split at h
 .rename_i ti gT
  split at h
  .rename_i e Z
   split at h
   .rename_i te wE;obtain⟨_,_,bx⟩:=bl.at_ gT;obtain⟨i,_,tX⟩:=bl.at_ wE;exact⟨e,i,bx.ptr Z,tX.km,by rw[tX.size];exact tX.pos⟩
   .cases h
  .cases h
 .cases h
def FW (h:Cm P ids o K B k):cN P N ids o K B k:=by obtain⟨v,e,E,G,ah⟩:=h;rw[sD] at ah;exact⟨v,e,ah,E N,FV G⟩
def aa6 (bl:eq P aV) (h:JN P aV ids o K B k):cN P N ids o K B k:=by
 unfold JN at h
 split at h
 .exact Qe (.inl ‹_›) h
 .exact Qe (.inr ‹_›) h
 .exact ZF ‹_› h
 .rename_i op T x y fF ag;have pg:(∃v,k v bK/\bD P N ids o K B v bK)->cN P N ids o K B k:=fun⟨v,E,G⟩=>cN.of E G
  split at h
  .rename_i b8;exact pg (P' ag (fun T=>QO bl) (QN bl b8) h)
  .rename_i b8;exact pg (P' ag (fun T=>QO bl) (QN bl b8) h)
  .split at h
   .exact h.elim
   .exact h.elim
   .rename_i hx
    split at h
    .rename_i O;exact pg (Qa ag (QM bl O) (.inl hx) h)
    .exact h.elim
   .rename_i hx
    split at h
    .rename_i O;exact pg (Qa ag (QM bl O) (.inr hx) h)
    .exact h.elim
   .rename_i E G _ _;exact pg (P8 ag (.inr fun c d=>⟨E c d,G _⟩) h)
  .exact h.elim
 .exact ZG ‹_› h
 .exact ZH ‹_› h
 .exact ZI ‹_› h
 .exact ZJ bl ‹_› h
 .exact ZL bl ‹_› h
 .exact ZV bl ‹_› h
 .exact ZZ bl ‹_› h
 .exact Z0 bl ‹_› h
 .exact Z3 bl ‹_› h
 .rename_i T bI ag
  split at h
  .rename_i l3;exact aab bl ag h l3
  .exact h.elim
 .rename_i T n bI hn ag;exact aad bl ag hn h
 .exact aae bl ‹_› h
 .exact aaf bl ‹_› h
 .rename_i ag
  split at h
  .rename_i hx;exact aal bl ag hx h
  .rename_i c o hx
   split at h
   .rename_i aa7;have:=at1 aa7;subst this;exact aau bl ag hx h
   .exact h.elim
  .exact aah bl ag h
 .exact aat bl ‹_› h
 .exact aai bl ‹_› h
 .exact aaq bl ‹_› h
 .exact aar bl ‹_› h
 .exact aax bl ‹_› h
 .exact aa1 ‹_› h
 .exact aaz bl ‹_› h
 .rename_i c ag
  split at h
  .rename_i f E;exact QH ag E rfl h
  .rename_i t E
   split at h
   .rename_i f l ak;exact aa3 ag E rfl ak h
   .rename_i x ak;exact aa4 ag E rfl ak h
   .exact h.elim
  .rename_i x E G
   split at h
   .rename_i T b8;exact aa5 bl ag E G b8 h
   .exact h.elim
  .rename_i x y E G
   split at h
   .rename_i T e8 b8;exact aas bl ag E G b8 h
   .exact h.elim
  .rename_i x y E G;refine QL (bi:=.min) (.inl rfl) ag E G ?_;simp only[vj rfl];exact h
  .rename_i x y E G;refine QL (bi:=.max) (.inr rfl) ag E G ?_;simp only[reduceCtorEq,if_false];exact h
  .rename_i x y E G
   split at h
   .rename_i T e8 b8
    split at h
    .exact FW h
    .exact aa0 bl ag E G b8 h
   .exact h.elim
  .rename_i x y E G
   split at h
   .rename_i T e8 b8
    split at h
    .rename_i U;have:=at1 U;subst this;exact aaE bl ag E G b8 h
    .exact aaL bl ag E G b8 h
   .exact h.elim
  .exact FW h
 .exact FW h
def Kd (bl:eq P aV) (h:FA P aV ids o K B k):cN P N ids o K B k:=by
 unfold FA at h
 split at h
 .exact FW h
 .exact aa6 bl h
end
end
end Go.Proofs.YtkfbeijmgggkmaaGreat
