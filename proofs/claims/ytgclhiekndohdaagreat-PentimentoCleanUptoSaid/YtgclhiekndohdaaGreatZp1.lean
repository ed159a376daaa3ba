/-
A part of the proof of this claim: lemmas, with no condition beyond what each says.
-/
import Derived.WalkKit
import Derived.WalkSpells
import Derived.WalkLawsBesides
import Derived.BigQuiet
import Derived.Deep.QuietTactic
import Derived.Deep.RegionHeld3
import Derived.Deep.AppendLies
import Derived.Deep.DrawnRows
import Derived.Maps.AppendAt
import Derived.Laws.CopyOwn
import Derived.Lib.ConvBytes
import Derived.Lib.Hide
import Derived.RangeFuncRecord
import Derived.OrdersIn
import Derived.TacticsIn
import Derived.Sort.LoopGhostIn
import Derived.MapKept
import Derived.ChangeMaps4
import Derived.Deep.MidRow
import Derived.Great.BuildSlice
import Derived.Laws.Small
import Derived.Lib.Strings
import Derived.Lib.AppendStr
set_option linter.all false
set_option maxRecDepth 100000
set_option maxHeartbeats 0
namespace Go.Proofs.YtgclhiekndohdaaGreat
abbrev gd:=@of_decide_eq_true
abbrev mu:=@if_neg
abbrev oj:=@of_decide_eq_false
abbrev vj:=@if_pos
abbrev ao7:=@List.getElem?_eq_getElem
abbrev ao8:=@Bool.and_eq_true
abbrev ao9:=@Nat.le_refl
abbrev ap0:=@absurd
abbrev ap1:=@congrArg
abbrev ap2:=@List.getD_eq_getElem?_getD
abbrev ap3:=@List.length_append
abbrev ap4:=@List.mem_cons_of_mem
abbrev ap5:=@Option.some.injEq
abbrev ap6:=@List.getElem?_eq_some_iff
abbrev ap7:=@List.mem_cons
abbrev ap8:=@Nat.eq_of_beq_eq_true
abbrev ap9:=@Nat.zero_le
abbrev aq0:=@List.length_take
abbrev aq1:=@decide_eq_true
abbrev aq2:=@List.getElem?_cons_zero
abbrev aq3:=@List.length_map
abbrev aq4:=@List.mem_cons_self
abbrev aq5:=@List.map_cons
abbrev aq6:=@List.mem_singleton
abbrev aq7:=@List.length_replicate
abbrev aq8:=@Nat.lt_of_lt_of_le
abbrev aq9:=@Bool.not_eq_true'
abbrev ar0:=@Result.andThen_ok
abbrev ar1:=@List.getElem?_map
abbrev ar2:=@List.take_length
abbrev ar3:=@List.all_eq_true
abbrev ar4:=@List.getElem_mem
abbrev ar5:=@List.contains_iff_mem
abbrev ar6:=@List.mem_map
abbrev ar7:=@List.mem_append
abbrev ar8:=@List.mem_map_of_mem
abbrev ar9:=@List.map_congr_left
abbrev as0:=@List.getElem?_append_left
abbrev as1:=@decide_eq_true_eq
abbrev as2:=@List.nodup_cons
abbrev as3:=@List.getElem?_append_right
abbrev as4:=@Option.map_eq_some_iff
abbrev as5:=@Option.isSome_iff_exists
abbrev as6:=@List.getElem?_set_ne
abbrev as7:=@decide_eq_false
abbrev as8:=@Sem.run_bind
abbrev as9:=@List.length_cons
abbrev at0:=@Decidable.byContradiction
abbrev at1:=@Bool.or_eq_false_iff
abbrev at2:=@List.take_succ_eq_append_getElem
abbrev at3:=@List.append_nil
abbrev at4:=@List.eq_nil_of_length_eq_zero
abbrev at5:=@Nat.zero_add
abbrev at6:=@List.map_map
abbrev at7:=@List.length_set
abbrev at8:=@Sem.run_pure
abbrev at9:=@List.mem_of_getElem?
abbrev au0:=@List.take_of_length_le
abbrev au1:=@List.getElem?_set_self
abbrev au2:=@List.map_append
abbrev au3:=@Bool.or_eq_true
abbrev au4:=@List.getElem?_take
abbrev au5:=@Array.toList_inj
abbrev au6:=@Nat.mul_le_mul
abbrev au7:=@Ne.symm
abbrev au8:=@List.length_drop
abbrev au9:=@Prod.mk.injEq
abbrev av0:=@MapKept.run_getObj_map
abbrev av1:=@List.nodup_nil
abbrev av2:=@List.append_assoc
abbrev av3:=@Option.getD_some
abbrev av4:=@Option.map_some
abbrev av5:=@Nat.mul_le_mul_right
abbrev av6:=@Array.getElem?_setIfInBounds_ne
abbrev av7:=@List.getElem?_eq_none
abbrev av8:=@Array.getD_eq_getD_getElem?
abbrev av9:=@Nat.le_trans
abbrev aw0:=@Nat.add_zero
abbrev aw1:=@List.getElem?_set
abbrev aw2:=@Nat.le_of_ble_eq_true
abbrev aw3:=@List.drop_eq_getElem_cons
abbrev aw4:=@List.getElem_of_mem
abbrev aw5:=@List.ext_getElem?
abbrev aw6:=@Bool.eq_false_iff
abbrev aw7:=@Nat.succ_mul
abbrev aw8:=@Nat.div_lt_iff_lt_mul
abbrev aw9:=@Int.natCast_mul
abbrev ax0:=@List.getElem?_replicate
abbrev ax1:=@Array.mem_append
abbrev ax2:=@Array.getElem?_eq_some_iff
abbrev ax3:=@List.take_add_one
abbrev ax4:=@List.foldl_append
abbrev ax5:=@Nat.mul_comm
abbrev ax6:=@Nat.lt_or_ge
abbrev ax7:=@Array.mem_toList_iff
abbrev ax8:=@Bool.true_and
abbrev ax9:=@Int.toNat_natCast
abbrev ay0:=@List.mem_filter
abbrev ay1:=@Nat.eq_zero_or_pos
abbrev ay2:=@List.getElem?_drop
abbrev ay3:=@Nat.mul_left_comm
abbrev ay4:=@List.getElem?_eraseIdx
abbrev ay5:=@Option.isNone_iff_eq_none
abbrev ay6:=@Nat.pow_le_pow_right
abbrev ay7:=@List.getElem?_cons_succ
abbrev ay8:=@Nat.not_lt_zero
abbrev ay9:=@List.map_nil
abbrev az0:=@Int.eq_ofNat_of_zero_le
abbrev az1:=@Int.ediv_nonneg
abbrev az2:=@List.flatMap_cons
abbrev az3:=@List.mem_of_find?_eq_some
abbrev az4:=@List.nil_append
abbrev az5:=@Nat.lt_irrefl
abbrev az6:=@Bool.not_eq_true
def az7 {p:Prop} (h:p:=by omega):p:=h
def az8 {p:Prop} (h:p:=by decide):p:=h
def az9 {p:Prop} (h:p:=by simp):p:=h
def aA0 {p:Prop} (h:p:=by kernel_rfl):p:=h
def aA1 {p:Prop} (h:p:=by rfl):p:=h
def aA3 {p:Prop} (h:p:=by assumption):p:=h
def aA4 {p:Prop} (h:p:=by rw[ai];simp[Op.operands]):p:=h
def aA5 {p:Prop} (h:p:=by omega):p:=h
def aA6 {p:Prop} (h:p:=by simpa using h):p:=h
def aA7 {p:Prop} (h:p:=by cases h):p:=h
def aA8 {p:Prop} (h:p:=by rw[ai];simp[Op.operands,Call.operands]):p:=h
def aA9 {p:Prop} (h:p:=by exact aE):p:=h
def aB0 {p:Prop} (h:p:=by rw[h'];intro h;cases h):p:=h
def aB1 {p:Prop} (h:p:=by simp;omega):p:=h
def aB2 {p:Prop} (h:p:=by unfold b6;rw[H]):p:=h
def aB3 {p:Prop} (h:p:=by rw[hr];decide):p:=h
def aB4 {p:Prop} (h:p:=by rw[hx];intro h;cases h):p:=h
def aB5 {p:Prop} (h:p:=by have:=oj J;omega):p:=h
def aB6 {p:Prop} (h:p:=by simpa using V):p:=h
def aB7 {p:Prop} (h:p:=by rw[cn,vj rfl]):p:=h
def aB8 {p:Prop} (h:p:=by rw[aq0];omega):p:=h
def aB9 {p:Prop} (h:p:=by simpa using ay):p:=h
def aC0 {p:Prop} (h:p:=by have:=gd J;omega):p:=h
def aC1 {p:Prop} (h:p:=by simp[bw.has,Nat.beq_eq]):p:=h
def aC2 {p:Prop} (h:p:=by rw[cL];omega):p:=h
def aC3 {p:Prop} (h:p:=by exact nL hx):p:=h
def aC4 {p:Prop} (h:p:=by simp[aR] at V;exact V):p:=h
def aC5 {p:Prop} (h:p:=by rw[jN,au];rfl):p:=h
def aC6 {p:Prop} (h:p:=by rw[h.en.ez];exact J):p:=h
def aC7 {p:Prop} (h:p:=by simpa using hx):p:=h
def aC8 {p:Prop} (h:p:=by simp[U]):p:=h
def aC9 {p:Prop} (h:p:=by simpa using E):p:=h
def aD0 {p:Prop} (h:p:=by simp at h;omega):p:=h
def aD1 {p:Prop} (h:p:=by rw[af];generalize 2 ^z=P at*;omega):p:=h
abbrev aD2:=List UInt8
abbrev aD3:=List Nat
abbrev aD6:=List (Nat×aD2)
abbrev aD7:=List Value
abbrev aD8:=World
abbrev aD9:=Program
abbrev aE0:=Operand
abbrev aE2:=Option Nat
abbrev aE4:=TypeId
abbrev aE5:=List Int
abbrev aE7:=Value
abbrev aE8:=FuncId
abbrev aE9:=List Oper
abbrev aF0:=List MapEntry
abbrev aF2:=TypeInfo
abbrev aF3:=TypeDesc
abbrev aF4:=List aD2
abbrev aF5:=ByteArray
abbrev aF6:=Array Value
abbrev aF7:=List Operand
abbrev aF8:=Nat×Nat
abbrev aG0:=List (Nat×Nat)
end Go.Proofs.YtgclhiekndohdaaGreat
namespace Go.Proofs.YtgclhiekndohdaaGreat
open Go.RowKit Go.Proofs
section
structure cR (S:Nat->Prop) (w w':aD8):Prop where
 os:w'.os=w.os
 tape:w'.tape=w.tape
 output:w'.output=w.output
 size:w.heap.size<=w'.heap.size
 block: ∀k,k < w.heap.size-> ¬S k->w'.heap[k]? =w.heap[k]?
def cR.refl (S:Nat->Prop) (w:aD8):cR S w w:=⟨rfl,rfl,rfl,ao9 _,fun _ _ _=>rfl⟩
def cR.trans {S:Nat->Prop} {a b c:aD8} (h:cR S a b) {S':Nat->Prop} (k:cR S' b c) (ax: ∀i,i < a.heap.size->S' i->S i):cR S a c:=
 ⟨k.os.trans h.os,k.tape.trans h.tape,k.output.trans h.output,av9 h.size k.size,
  fun i aG hn=>(k.block i (aq8 aG h.size) (fun x=>hn (ax i aG x))).trans (h.block i aG hn)⟩
def cR.mono {S S':Nat->Prop} {w w':aD8} (h:cR S w w') (ax: ∀i,i < w.heap.size->S i->S' i):cR S' w w':=
 ⟨h.os,h.tape,h.output,h.size,fun i aG hn=>h.block i aG (fun x=>hn (ax i aG x))⟩
def cR.qh {S:Nat->Prop} {w w':aD8} (h:Below w.heap.size w w'):cR S w w':=
 ⟨h.os,h.tape,h.output,h.size,fun i aG _=>h.block i aG⟩
def cR.below {S:Nat->Prop} {B:Nat} {w w':aD8} (h:cR S w w') (dh:B<=w.heap.size) (ax: ∀i,i < B-> ¬S i):Below B w w':=
 ⟨h.os,h.tape,h.output,h.size,fun i aG=>h.block i az7 (ax i aG)⟩
def l0 {w:aD8} {b:Nat} {o:Obj} (h:w.heap[b]? =some o):b < w.heap.size:=by
 rcases ax6 b w.heap.size with br |uY
 .exact br
 .rw[Array.getElem?_eq_none uY] at h;cases h
def hy (D:Nat->Prop) (w:aD8) (size:Nat) (v:aE7) (n:Nat) (xs:aD7):Prop:=
 xs.length=n*size/\ ∃A c,v= .slice A n c/\n<=c/\c<=maxLen/\
  (0 < n-> ∃b o,A=some ⟨b,o,none⟩/\D b/\b < w.heap.size/\ ∀j u,xs[j]? =some u->w.cell? ⟨b,o+j,none⟩=some u)
def tt (D:Nat->Prop) (w w':aD8):Prop:= ∀i,i < w.heap.size->D i->w'.heap[i]? =w.heap[i]?
def tt.refl (D:Nat->Prop) (w:aD8):tt D w w:=fun _ _ _=>rfl
def tt.cell {D:Nat->Prop} {w w':aD8} (h:tt D w w') {p:Addr} {v:aE7} (ao:w.cell? p=some v) (ax:D p.block):w'.cell? p=some v:=
 (World.cell?_of_block (h p.block (World.block_lt_of_cell? w p ao) ax)).trans ao
def tt.qh {D:Nat->Prop} {w w':aD8} (h:Below w.heap.size w w'):tt D w w':=fun i aG _=>h.block i aG
def hy.mono {D AM:Nat->Prop} {w w':aD8} {size n:Nat} {v:aE7} {xs:aD7} (h:hy D w size v n xs) (Z:tt D w w') (hw:w.heap.size<=w'.heap.size) (H: ∀i,i < w.heap.size->D i->AM i):hy AM w' size v n xs:=by obtain⟨ak,A,c,rfl,E,G,ag⟩:=h;refine⟨ak,A,c,rfl,E,G,fun hn=>?_⟩;obtain⟨b,o,rfl,cx,O,J⟩:=ag hn;exact⟨b,o,rfl,H b O cx,az7,fun j u V=>Z.cell (J j u V) cx⟩
def hy.nil (D:Nat->Prop) (w:aD8) (size:Nat):hy D w size (.slice none 0 0) 0 []:=⟨az9,none,0,rfl,ao9 _,az8,fun h=>ap0 h az7⟩
def hW (c:UInt8):Value:=.int .u8 c.toNat
def px (D:Nat->Prop) (w:aD8) (v:aE7) (l:aD2):Prop:=hy D w 1 v l.length (l.map hW)
def px.form {D:Nat->Prop} {w:aD8} {v:aE7} {l:aD2} (h:px D w v l): ∃A c,v= .slice A l.length c/\l.length<=c/\c<=maxLen:=by obtain⟨_,A,c,rfl,E,G,_⟩:=h;exact⟨A,c,rfl,E,G⟩
def qi (b o j:Nat):(⟨b,o,none⟩:Addr).add j=⟨b,o+j,none⟩:=by
 unfold Addr.add
 split
 .rename_i h;subst h;rfl
 .rfl
def Ws {P:aD9} (w:aD8) (base:Nat) (t ty e:aE4) (i:aF2) (size:Nat) (cq:P.underlying t=some (.slice e)) (aG:P.info? e=some i)
  (v:aE7) (n:Nat) (xs:aD7) (dP:w.ownsRow base e size v n xs) (c:Nat):(Builtin.append_ #[t,t] ty #[v,.slice none 0 c]).run P w= .ok v w:=by
 rcases dP.2 with⟨rfl,rfl⟩ |⟨g,cap,fW,rfl,_,_,NF,_⟩
 .simp[Builtin.append_,run_underlying cq,sizeOf,typeInfo,aG,Builtin.lenOf,Builtin.firstCells]
 .simp[Builtin.append_,run_underlying cq,sizeOf,typeInfo,aG,Builtin.lenOf,Builtin.firstCells,NF,storeCells]
def Ht {P:aD9} (w:aD8) (base:Nat) (t ty e:aE4) (i:aF2) (aF:aE7) (size bytes:Nat) (cq:P.underlying t=some (.slice e)) (aG:P.info? e=some i) (aO:i.zero=some aF)
  (Hu:i.size=size) (wv:i.bytes=bytes) (qj:aF.cells.size=size) (cL:0 < size)
  (v:aE7) (n:Nat) (xs:aD7) (dP:w.ownsRow base e size v n xs)
  (D:Nat->Prop) (jD:aE7) (m:Nat) (gz:aD7) (aw:hy D w size jD m gz) (E: ∀u∈gz,u.oneCell'=true)
  (AN:n+m<=maxLen) (AO:(n+m)*bytes<=140737488355328) (AP:base<=w.heap.size):
  ∃dp w',(Builtin.append_ #[t,t] ty #[v,jD]).run P w= .ok dp w'/\w'.ownsRow base e size dp (n+m) (xs++gz)/\w.grownBy w' v.ownBlock/\
   (dp.ownBlock=v.ownBlock\/dp.ownBlock=some w.heap.size):=by
 obtain⟨ak,A,c,rfl,_,_,ag⟩:=aw;rcases A with _ |ad
 .have aD:m=0:=by
   rcases ay1 m with au |au
   .exact au
   .obtain⟨b,o,h,_⟩:=ag au
    cases h
  subst aD;have hn:gz=[]:=at4 (by simpa using ak);subst hn;exact⟨v,w,Ws w base t ty e i size cq aG v n xs dP c,by simpa using dP,World.grownBy.refl w _,.inl rfl⟩
 .have AQ: ∀j u,gz[j]? =some u->w.cell? (ad.add j)=some u:=by
   intro j u a8;rcases ay1 m with au |au
   .subst au;have hn:gz=[]:=at4 (by simpa using ak);subst hn;simp at a8
   .obtain⟨b,o,h,_,_,J⟩:=ag au;injection h with h
    subst h;rw[qi];exact J j u a8
  obtain⟨dp,w',d1,G,aS,_,bG⟩:=run_append_own_at (P:=P) w base t ty e i aF size bytes cq aG aO Hu wv qj cL v n xs dP ad m c gz ak AQ E AN AO AP;exact⟨dp,w',d1,G,aS,bG⟩
def Wt {P:aD9} (w:aD8) {o:Oper} {a:Act} {K:Act->World->Prop} {Q:Exit->Act->World->Prop} (s x:aE0) (t:aE4)
  (ai:o.op= .call {callee:=.builtin .append,args:= #[s,x],argTypes:= #[t,t]})
  (base:Nat) (e:aE4) (aF:aE7) (size bytes:Nat) (cq:P.underlying t=some (.slice e)) (AR:(P.info? e).map (fun i=>(i.zero,i.size,i.bytes))=some (some aF,size,bytes)) (qj:aF.cells.size=size) (cL:0 < size)
  (v:aE7) (n:Nat) (xs:aD7) (ax:a.eval s=v) (dP:w.ownsRow base e size v n xs)
  (D:Nat->Prop) (jD:aE7) (m:Nat) (gz:aD7) (hx:a.eval x=jD) (aw:hy D w size jD m gz) (E: ∀u∈gz,u.oneCell'=true)
  (AN:n+m<=maxLen) (AO:(n+m)*bytes<=140737488355328) (AP:base<=w.heap.size)
  (h: ∀dp w',w'.ownsRow base e size dp (n+m) (xs++gz)->w.grownBy w' v.ownBlock->(dp.ownBlock=v.ownBlock\/dp.ownBlock=some w.heap.size)->K (a.put o.dst dp) w'):o.wp P a w K Q:=by
 obtain⟨i,aG,aO,Hu,wv⟩:=info_parts AR;obtain⟨dp,w',d1,G,ag,aS⟩:=Ht (P:=P) w base t o.type e i aF size bytes cq aG aO Hu wv qj cL v n xs dP D jD m gz aw E AN AO AP;unfold Oper.wp execOp;simp only[ai,resolve,invoke,builtin,as8,at8,ar0,List.map_toArray,aq5,ay9,ax,hx,d1];exact h dp w' G ag aS
def Wu {P:aD9} (w:aD8) {dl:Array Oper} {rest:aE9} {o:Oper} {a:Act} {Q:Exit->Act->World->Prop} (qk:o.guard=none) (s x:aE0) (t:aE4)
  (ai:o.op= .call {callee:=.builtin .append,args:= #[s,x],argTypes:= #[t,t]})
  (base:Nat) (e:aE4) (aF:aE7) (size bytes:Nat) (cq:P.underlying t=some (.slice e)) (AR:(P.info? e).map (fun i=>(i.zero,i.size,i.bytes))=some (some aF,size,bytes)) (qj:aF.cells.size=size) (cL:0 < size)
  (v:aE7) (n:Nat) (xs:aD7) (ax:a.eval s=v) (dP:w.ownsRow base e size v n xs)
  (D:Nat->Prop) (jD:aE7) (m:Nat) (gz:aD7) (hx:a.eval x=jD) (aw:hy D w size jD m gz) (E: ∀u∈gz,u.oneCell'=true)
  (AN:n+m<=maxLen) (AO:(n+m)*bytes<=140737488355328) (AP:base<=w.heap.size)
  (h: ∀dp w',w'.ownsRow base e size dp (n+m) (xs++gz)->w.grownBy w' v.ownBlock->(dp.ownBlock=v.ownBlock\/dp.ownBlock=some w.heap.size)->wpList P dl Q rest (a.put o.dst dp) w'):wpList P dl Q (o::rest) a w:=
 wpList_plain qk fun _ cT=>Wt w s x t ai base e aF size bytes cq AR qj cL v n xs ax dP D jD m gz hx aw E AN AO AP fun dp w' G ag aS=>cT _ _ (h dp w' G ag aS)
def NG (l:aD2): ∀u∈l.map hW,u.oneCell'=true:=by intro u a8;obtain⟨c,_,rfl⟩:=ar6.1 a8;rfl
def hy.sk {w:aD8} {base:Nat} {e:aE4} {size n:Nat} {v:aE7} {xs:aD7} (h:w.ownsRow base e size v n xs):hy (fun i=>v.ownBlock=some i) w size v n xs:=by
 refine⟨h.1,?_⟩;rcases h.2 with⟨rfl,rfl⟩ |⟨g,cap,fW,rfl,aV,bf,E,G,ag,aS⟩
 .exact⟨none,0,rfl,ao9 _,az8,fun h=>ap0 h az7⟩
 .refine⟨_,cap,rfl,E,G,fun _=>⟨g,0,rfl,rfl,(h.lt g rfl).2,fun j u V=>?_⟩⟩;have:=h.cells (g:=g) rfl j u V
  rwa[qi] at this
def hy.yk {D AM:Nat->Prop} {w:aD8} {size n:Nat} {v:aE7} {xs:aD7} (h:hy D w size v n xs) (H: ∀i,i < w.heap.size->D i->AM i):hy AM w size v n xs:=h.mono (tt.refl _ _) (ao9 _) H
def l1 {W cp:aD8} (O:Below W.heap.size W cp) {p:Addr} {v:aE7} (h:W.cell? p=some v):cp.cell? p=some v:=
 (O.cell (World.block_lt_of_cell? W p h)).trans h
def uZ (w:aD8) (o:Obj):Below w.heap.size w (w.alloc o):=(Below.refl _ _).alloc (ao9 _) _
def Wv (w:aD8):Below w.heap.size w w.drew:=(Below.refl _ _).drew
def aP (B:Nat) (v:aE7):Nat->Prop:=fun i=>B<=i/\v.ownBlock≠some i
def Ww {w w':aD8} {row:aE2} {S:Nat->Prop} (aV:w.grownBy w' row) (aw: ∀k,row=some k->S k):cR S w w':=
 ⟨aV.os,aV.tape,aV.output,aV.size,fun k Z hn=>aV.block k Z (fun e=>hn (aw k e.symm))⟩
def Wx {D:Nat->Prop} {w:aD8} {m:Nat} {jD:aE7} {ys:aD7} (h:hy D w 1 jD m ys) (tu:Nat):
  ∃sp Dx,jD= .slice sp m Dx/\(ys.take tu).length=Nat.min m tu/\(0 < (ys.take tu).length-> ∃ad,sp=some ad/\ ∀j v,(ys.take tu)[j]? =some v->w.cell? (ad.add j)=some v):=by
 obtain⟨ak,A,c,rfl,_,_,ag⟩:=h;have sl:ys.length=m:=aA5
 have AS:(ys.take tu).length=Nat.min m tu:=by rw[aq0,sl];exact Nat.min_comm _ _
 refine⟨A,c,rfl,AS,fun ao=>?_⟩
 have aD:0 < m:=by
  have:=Nat.min_le_left m tu;have e:min m tu=Nat.min m tu:=rfl;omega
 obtain⟨b,o,rfl,_,_,J⟩:=ag aD;refine⟨_,rfl,fun j v V=>?_⟩;rw[qi];refine J j v ?_;rw[au4] at V
 split at V
 .exact V
 .cases V
def Wy {P:aD9} (w:aD8) (jD dst e:aE4) (s:aF5) (ax:P.underlying jD=some .string) (H:P.underlying dst=some (.slice e)) (U:P.underlying e=some (.int .u8)) (aD:s.size<=4294967296):
  ∃cap cp,(convert jD dst (.string s)).run P w= .ok (.slice (some ⟨w.heap.size,0,none⟩) s.size cap) cp/\px (fun i=>w.heap.size<=i) cp (.slice (some ⟨w.heap.size,0,none⟩) s.size cap) s.data.toList/\Below w.heap.size w cp:=by
 refine⟨_,_,Lib.run_convert_string_bytes w jD dst e s ax H U,?_,?_⟩
 .have ak:s.data.toList.length=s.size:=by simp
  unfold px;rw[ak];refine⟨by rw[aq3,ak];omega,_,_,rfl,grownCap_ge _ _ _ _,grownCap_le_maxLen _ _ _ _ (by simp only[maxLen];omega),fun _=>⟨_,0,rfl,ao9 _,by rw[Lib.bytesWorld_size];omega,fun j u V=>?_⟩⟩
  have rn:j < s.data.toList.length:=by
   have:=(ap6.1 V).1;simpa using this
  rw[at5,Lib.bytesWorld_cell w e s j az7];rw[ar1,ao7 rn] at V;simp only[av4,ap5] at V;rw[<-V,ap2,ao7 rn];rfl
 .exact⟨rfl,rfl,rfl,by rw[Lib.bytesWorld_size];omega,fun k Z=>Lib.bytesWorld_at_old w e s k Z⟩
def NH {P:aD9} {D:Nat->Prop} {w:aD8} {A:Option Addr} {n c:Nat} {l:aD2} (h:px D w (.slice A n c) l) (jD dst e:aE4) (ax:P.underlying jD=some (.slice e)) (U:P.underlying e=some (.int .u8)) (H:P.underlying dst=some .string):
  (convert jD dst (.slice A n c)).run P w= .ok (.string ⟨l.toArray⟩) w:=by
 obtain⟨ak,A',ck,ay,_,_,ag⟩:=h;injection ay with af al bt
 subst af al bt;rcases A with _ |ad
 .have au:l=[]:=by
   rcases ay1 l.length with h |h
   .exact at4 h
   .obtain⟨b,o,ha,_⟩:=ag h;cases ha
  subst au;exact run_convert_bytes_nil w jD e ax U _ _ dst H
 .refine run_convert_bytes_back w jD dst e ad _ l ax U H fun j V=>?_
  obtain⟨b,o,ha,_,_,J⟩:=ag az7;injection ha with ha
  subst ha;rw[qi];exact J j _ (by simp[ao7 V,hW])
def Hv {w:aD8} (o:Obj) {g:Nat} (h:g=w.heap.size):(w.alloc o).heap[g]? =some o:=by subst h;exact heap_alloc_new w o
end
section
inductive bz where
 |int (k:IntKind)
 |u8
 |bool
 |str
 |aM
 |dd
 |fn
 |ce (u:bz)
 |bT (u v:bz)
 |arr (n:Nat) (u:bz)
def aa:bz->Type
 | .int _=>Int
 | .u8=>UInt8
 | .bool=>Bool
 | .str=>aD2
 | .aM=>Option Nat
 | .dd=>Option (Nat×Nat×Nat)
 | .fn=>Nat×aD3
 | .ce u=>List (aa u)
 | .bT u v=>aa u×aa v
 | .arr _ u=>List (aa u)
def aR:bz->Nat
 | .int _=>1
 | .u8=>1
 | .bool=>1
 | .str=>1
 | .aM=>1
 | .dd=>1
 | .fn=>1
 | .ce _=>1
 | .bT u v=>aR u+aR v
 | .arr n u=>n*aR u
def cM:(u:bz)->aa u
 | .int _=>(0:Int)
 | .u8=>(0:UInt8)
 | .bool=>false
 | .str=>([]:aD2)
 | .aM=>(none:aE2)
 | .dd=>(none:Option (Nat×Nat×Nat))
 | .fn=>((0,[]):Nat×aD3)
 | .ce _=>[]
 | .bT u v=>(cM u,cM v)
 | .arr n u=>List.replicate n (cM u)
inductive D where
 |int (k:IntKind) (n:Int)
 |lit (b:Bool)
 |bool (b:Bool)
 |str (s:aD2)
 |aM (x:aE2)
 |dd (x:Option (Nat×Nat×Nat))
 |fn (x:Nat×aD3)
 |cr (u:bz) (xs:List (aa u))
def fq:(u:bz)->aa u->Nat->D
 | .int k,n,_=>.int k n
 | .u8,b,_=>.int .u8 (UInt8.toNat b:Int)
 | .bool,b,_=>.bool b
 | .str,s,_=>.str s
 | .aM,x,_=>.aM x
 | .dd,x,_=>.dd x
 | .fn,x,_=>.fn x
 | .ce u,xs,_=>.cr u xs
 | .bT u v,p,j=>match Nat.blt j (aR u) with
  |true=>fq u p.1 j
  |false=>fq v p.2 (j - aR u)
 | .arr _ u,xs,j=>fq u (List.getD xs (j/aR u) (cM u)) (j % aR u)
def fi {α:Type} (xs:List α) (i:Nat):Option α:=xs[i]?
def Dy {α:Type} (x:α) (xs:List α):Prop:=x∈xs
def Wz {α:Type} (xs:List α) (i:Nat) (d:α) (h:i < xs.length):fi xs i=some (xs.getD i d):=by unfold fi;rw[ap2,ao7 h];rfl
def WA {α:Type} {xs:List α} {i:Nat} {y:α} (d:α) (h:fi xs i=some y):xs.getD i d=y:=by unfold fi at h;rw[ap2,h];rfl
def AT {α:Type} {xs:List α} {i:Nat} {y:α} (h:fi xs i=some y):i < xs.length:=(ap6.1 h).1
def WB {α:Type} {xs:List α} {i:Nat} {y:α} (h:fi xs i=some y):Dy y xs:=at9 h
def n3:(u:bz)->aa u->Prop
 | .bT u v,p=>n3 u p.1/\n3 v p.2
 | .arr n u,xs=>List.length xs=n/\ ∀x,Dy (α:=aa u) x xs->n3 u x
 |_,_=>True
def nl:Option Nat->Option Addr
 |none=>none
 |some b=>some ⟨b,0,none⟩
def ql:Option (Nat×Nat×Nat)->Value
 |none=>.slice none 0 0
 |some (b,n,cap)=>.slice (some ⟨b,0,none⟩) n cap
def qm:aD3->List Value
 | []=>[]
 |b::l=>.pointer (some ⟨b,0,none⟩)::qm l
def l2 (x:Nat×aD3):Value:=.func (.func x.1) #[] (List.toArray (qm x.2))
def cw (I:Nat->Prop) (w:aD8):(u:bz)->aa u->(Nat->Option Value)->Prop
 | .int k,n,c=>c 0=some (.int k n)
 | .u8,b,c=>c 0=some (.int .u8 (UInt8.toNat b:Int))
 | .bool,b,c=>c 0=some (.bool b)
 | .str,s,c=>c 0=some (.string ⟨List.toArray s⟩)
 | .aM,x,c=>c 0=some (.pointer (nl x))
 | .dd,x,c=>c 0=some (ql x)
 | .fn,x,c=>c 0=some (l2 x)
 | .ce u,xs,c=> ∃A cap,c 0=some (.slice A (List.length xs) cap)/\List.length xs<=cap/\cap<=maxLen/\
  (0 < List.length xs-> ∃b o,A=some ⟨b,o,none⟩/\I b/\ ∀i x,fi (α:=aa u) xs i=some x->cw I w u x (fun j=>w.cell? ⟨b,o+(i*aR u+j),none⟩))
 | .bT u v,p,c=>cw I w u p.1 c/\cw I w v p.2 (fun j=>c (aR u+j))
 | .arr n u,xs,c=>List.length xs=n/\ ∀i x,fi (α:=aa u) xs i=some x->cw I w u x (fun j=>c (i*aR u+j))
def gA (I:Nat->Prop) (w:aD8):D->Value->Prop
 | .int k n,v=>v= .int k n
 | .lit b,v=>v= .bool b
 | .bool b,v=>v= .bool b
 | .str s,v=>v= .string ⟨s.toArray⟩
 | .aM x,v=>v= .pointer (nl x)
 | .dd x,v=>v=ql x
 | .fn x,v=>v=l2 x
 | .cr u xs,v=>cw I w (.ce u) xs (fun _=>some v)
def cj (I:Nat->Prop) (w:aD8) (I':Nat->Prop) (w':aD8):Prop:= ∀b,I b->I' b/\w'.heap[b]? =w.heap[b]?
section
variable {I I':Nat->Prop} {w w':aD8}
def cj.refl (I:Nat->Prop) (w:aD8):cj I w I w:=fun _ h=>⟨h,rfl⟩
def cj.trans {NI:Nat->Prop} {NJ:aD8} (h:cj I w I' w') (k:cj I' w' NI NJ):cj I w NI NJ:=fun b O=>⟨(k b (h b O).1).1,(k b (h b O).1).2.trans (h b O).2⟩
def NK {b o:Nat} {v:aE7} (h:w'.heap[b]? =w.heap[b]?) (J:w.cell? ⟨b,o,none⟩=some v):w'.cell? ⟨b,o,none⟩=some v:=
 (World.cell?_of_block (a:=⟨b,o,none⟩) h).trans J
def cw.mono (U:cj I w I' w'): ∀(u:bz) (x:aa u) (c ck:Nat->Option Value),(∀j v,c j=some v->ck j=some v)->cw I w u x c->cw I' w' u x ck:=by
 intro u
 induction u with
 |int k=>exact fun x c ck J h=>J _ _ h
 |u8=>exact fun x c ck J h=>J _ _ h
 |bool=>exact fun x c ck J h=>J _ _ h
 |str=>exact fun x c ck J h=>J _ _ h
 |aM=>exact fun x c ck J h=>J _ _ h
 |dd=>exact fun x c ck J h=>J _ _ h
 |fn=>exact fun x c ck J h=>J _ _ h
 |ce u bl=>
  rintro x c ck J ⟨A,cap,au,E,G,ag⟩;refine⟨A,cap,J _ _ au,E,G,fun ak=>?_⟩;obtain⟨b,o,eR,aZ,hx⟩:=ag ak;exact⟨b,o,eR,(U b aZ).1,fun i y aC=>bl _ _ _ (fun j v ay=>NK (U b aZ).2 ay) (hx i y aC)⟩
 |bT u v n4 n9=>exact fun x c ck J h=>⟨n4 _ _ _ J h.1,n9 _ _ _ (fun j v ay=>J _ _ ay) h.2⟩
 |arr n u bl=>exact fun x c ck J h=>⟨h.1,fun i y aC=>bl _ _ _ (fun j v ay=>J _ _ ay) (h.2 i y aC)⟩
def gA.mono (U:cj I w I' w'): ∀(x:D) (v:aE7),gA I w x v->gA I' w' x v
 | .int _ _,_,h=>h
 | .lit _,_,h=>h
 | .bool _,_,h=>h
 | .str _,_,h=>h
 | .aM _,_,h=>h
 | .dd _,_,h=>h
 | .fn _,_,h=>h
 | .cr u xs,v,h=>cw.mono U (.ce u) xs (fun _=>some v) (fun _=>some v) (fun _ _ h=>h) h
def Hw {j n s:Nat} (h:j < n*s):j/s < n/\j % s < s/\j/s*s+j % s=j:=by
 have ax:0 < s:=by
  rcases ay1 s with au |au
  .subst au;simp at h
  .exact au
 exact⟨(aw8 ax).2 h,Nat.mod_lt _ ax,by rw[ax5];exact Nat.div_add_mod j s⟩
def cw.cell: ∀(u:bz) (x:aa u) (c:Nat->Option Value) (j:Nat),cw I w u x c->j < aR u-> ∃v,c j=some v/\gA I w (fq u x j) v:=by
 intro u
 induction u with
 |int k=>exact fun x c j h V=>⟨_,(by
       have:j=0:=aC4
       subst this;exact h),rfl⟩
 |u8=>exact fun x c j h V=>⟨_,(by
    have:j=0:=aC4
    subst this;exact h),rfl⟩
 |bool=>exact fun x c j h V=>⟨_,(by
      have:j=0:=aC4
      subst this;exact h),rfl⟩
 |str=>exact fun x c j h V=>⟨_,(by
     have:j=0:=aC4
     subst this;exact h),rfl⟩
 |aM=>exact fun x c j h V=>⟨_,(by
     have:j=0:=aC4
     subst this;exact h),rfl⟩
 |dd=>exact fun x c j h V=>⟨_,(by
     have:j=0:=aC4
     subst this;exact h),rfl⟩
 |fn=>exact fun x c j h V=>⟨_,(by
    have:j=0:=aC4
    subst this;exact h),rfl⟩
 |ce u _=>
  intro x c j h V;have:j=0:=aC4
  subst this;obtain⟨A,cap,au,E⟩:=h;exact⟨_,au,A,cap,rfl,E⟩
 |bT u v n4 n9=>
  intro x c j h V;simp only[aR] at V;unfold fq
  by_cases br:j < aR u
  .rw[show Nat.blt j (aR u)=true by simpa[Nat.blt_eq] using br];exact n4 _ _ _ h.1 br
  .rw[show Nat.blt j (aR u)=false by rw[aw6];simpa[Nat.blt_eq] using br];have:=n9 _ _ (j - aR u) h.2 az7
   rwa[show aR u+(j - aR u)=j by omega] at this
 |arr n u bl=>
  intro x c j h V;obtain⟨af,al,bt⟩:=Hw (by simpa[aR] using V);have ak:j/aR u < List.length x:=by rw[h.1];exact af
  have aV:fi (α:=aa u) x (j/aR u)=some (List.getD x (j/aR u) (cM u)):=Wz (α:=aa u) x _ _ ak;have:=bl _ _ (j % aR u) (h.2 _ _ aV) al;rw[bt] at this;exact this
def cw.mk: ∀(u:bz) (x:aa u) (c:Nat->Option Value),n3 u x->(∀j,j < aR u-> ∃v,c j=some v/\gA I w (fq u x j) v)->cw I w u x c:=by
 intro u
 induction u with
 |int k=>intro x c _ h;obtain⟨v,E,G⟩:=h 0 (by simp[aR]);rw[show v=_ from G] at E;exact E
 |u8=>intro x c _ h;obtain⟨v,E,G⟩:=h 0 (by simp[aR]);rw[show v=_ from G] at E;exact E
 |bool=>intro x c _ h;obtain⟨v,E,G⟩:=h 0 (by simp[aR]);rw[show v=_ from G] at E;exact E
 |str=>intro x c _ h;obtain⟨v,E,G⟩:=h 0 (by simp[aR]);rw[show v=_ from G] at E;exact E
 |dd=>intro x c _ h;obtain⟨v,E,G⟩:=h 0 (by simp[aR]);rw[show v=_ from G] at E;exact E
 |fn=>intro x c _ h;obtain⟨v,E,G⟩:=h 0 (by simp[aR]);rw[show v=_ from G] at E;exact E
 |aM=>intro x c _ h;obtain⟨v,E,G⟩:=h 0 (by simp[aR]);rw[show v=_ from G] at E;exact E
 |ce u _=>
  intro x c _ h;obtain⟨v,E,A,cap,G,ag⟩:=h 0 (by simp[aR]);exact⟨A,cap,E.trans G,ag⟩
 |bT u v n4 n9=>
  intro x c hw h;refine⟨n4 _ _ hw.1 fun j V=>?_,n9 _ _ hw.2 fun j V=>?_⟩
  .obtain⟨v,E,G⟩:=h j (by simp only[aR];omega);unfold fq at G;rw[show Nat.blt j (aR u)=true by simpa[Nat.blt_eq] using V] at G;exact⟨v,E,G⟩
  .obtain⟨dp,E,G⟩:=h (aR u+j) (by simp only[aR];omega);unfold fq at G;rw[show Nat.blt (aR u+j) (aR u)=false by rw[aw6];simp[Nat.blt_eq]] at G;rw[show aR u+j - aR u=j by omega] at G;exact⟨dp,E,G⟩
 |arr n u bl=>
  intro x c hw h;refine⟨hw.1,fun i y aC=>bl _ _ (hw.2 y (WB (α:=aa u) aC)) fun j V=>?_⟩;have aG:i < List.length x:=AT (α:=aa u) aC;have dW:i < n:=by rw[<-hw.1];exact aG
  have br:i*aR u+j < n*aR u:=by
   have:=av5 (aR u) dW;rw[aw7] at this;omega
  obtain⟨v,E,G⟩:=h (i*aR u+j) br;unfold fq at G
  have af:(i*aR u+j)/aR u=i:=by
   rw[ax5,Nat.mul_add_div az7,Nat.div_eq_of_lt V,aw0]
  have al:(i*aR u+j) % aR u=j:=by
   rw[ax5,Nat.mul_add_mod,Nat.mod_eq_of_lt V]
  rw[af,al] at G;rw[show List.getD x i (cM u)=y from WA (α:=aa u) _ aC] at G;exact⟨v,E,G⟩
end
structure bm where
 bh:Nat
 A:Option Addr
 n:Nat
 cap:Nat
def bm.fa (p:bm):Value:=.slice p.A p.n p.cap
inductive kc where
 |p (c off:Nat)
 |d (x:D)
inductive bw where
 |d (x:D)
 |ptr (c off:Nat)
 |own (c:Nat)
 |el (u:bz) (x:aa u) (off:Nat)
 |fX (c s i off:Nat)
 |os (c s off n:Nat)
 |mp (c:Nat)
 |cW (f:aE8) (l:List kc)
 |dc
 |bH (v:aE7)
 |any
inductive dH where
 |one (s:bw)
 |agg (l:List bw)
 |jV (u:bz) (x:aa u)
inductive aN where
 |c (x:dH)
 |cm (l:List dH)
 |undef
structure bc where
 bn:(Nat->Prop)->(Nat->Prop)->World->bm->Prop
 cg: ∀(I F:Nat->Prop) (w:aD8) (I':Nat->Prop) (w':aD8) (p:bm),bn I F w p->cj I w I' w'->(∀b,F b->w'.heap[b]? =w.heap[b]?)->w.heap.size<=w'.heap.size->bn I' F w' p
inductive ba where
 |cells (l:List bw)
 |row (e:aE4) (u:bz) (xs:List (aa u))
 |map (aI aK:bz) (es:List (aa aI×aa aK))
 |val (u:bz) (x:aa u)
 |aA (o:bc)
 |bY (d:Nat) (o:bm->bc)
def ww (ρ:Nat->bm) (I:Nat->Prop) (w:aD8):kc->Value->Prop
 | .p c off,v=>v= .pointer (some ⟨(ρ c).bh,off,none⟩)
 | .d x,v=>gA I w x v
def hK (ρ:Nat->bm) (I:Nat->Prop) (w:aD8):List kc->List Value->Prop
 | [],aB=>aB=[]
 |s::l,aB=> ∃v r,aB=v::r/\ww ρ I w s v/\hK ρ I w l r
def dU (ρ:Nat->bm) (I:Nat->Prop) (w:aD8):bw->Value->Prop
 | .d x,v=>gA I w x v
 | .ptr c off,v=>v= .pointer (some ⟨(ρ c).bh,off,none⟩)
 | .own c,v=>v=(ρ c).fa
 | .el u x off,v=> ∃b o,v= .pointer (some ⟨b,o+off,none⟩)/\I b/\cw I w u x (fun j=>w.cell? ⟨b,o+j,none⟩)
 | .fX c s i off,v=>v= .pointer (some ⟨(ρ c).bh,i*s+off,none⟩)
 | .os c s off n,v=>v= .slice (if(ρ c).cap=off then(ρ c).A else(ρ c).A.map (·.add (off*s))) n ((ρ c).cap - off)
 | .mp c,v=>v= .map (some (ρ c).bh)
 | .cW f l,v=> ∃aB,v= .func (.func f) #[] (List.toArray aB)/\hK ρ I w l aB
 | .dc,v=>v= .slice none 0 0
 | .bH u,v=>v=u
 | .any,_=>True
def cb (ρ:Nat->bm) (I:Nat->Prop) (w:aD8):List bw->List Value->Prop
 | [],aB=>aB=[]
 |s::l,aB=> ∃v r,aB=v::r/\dU ρ I w s v/\cb ρ I w l r
def gu (ρ:Nat->bm) (I:Nat->Prop) (w:aD8):dH->Value->Prop
 | .one s,v=>dU ρ I w s v
 | .agg l,v=> ∃aB,v= .agg (List.toArray aB)/\cb ρ I w l aB
 | .jV u x,v=> ∃aB,v= .agg (List.toArray aB)/\aB.length=aR u/\cw I w u x (fun j=>aB[j]?)
def iv (ρ:Nat->bm) (I:Nat->Prop) (w:aD8):List dH->List Value->Prop
 | [],aB=>aB=[]
 |s::l,aB=> ∃v r,aB=v::r/\gu ρ I w s v/\iv ρ I w l r
def cv (ρ:Nat->bm) (I:Nat->Prop) (w:aD8):aN->Value->Prop
 | .c x,v=>gu ρ I w x v
 | .cm l,v=> ∃aB,v= .tuple (List.toArray aB)/\iv ρ I w l aB
 | .undef,v=>v=Go.undef
def gI:(u:bz)->aa u->Value
 | .int k,n=>.int k n
 | .str,s=>.string ⟨List.toArray s⟩
 |_,_=>.nilFunc
def mE:bz->Bool
 | .bT _ _=>false
 | .arr _ _=>false
 |_=>true
def jn (I:Nat->Prop) (w:aD8) (u:bz) (x:aa u) (v:aE7):Prop:=v.cells.size=aR u/\((mE u=true->v.cells= #[v])/\(mE u=false-> ∃cs,v= .agg cs))/\cw I w u x (fun j=>v.cells.toList[j]?)
def h4 (I:Nat->Prop) (w:aD8) (aI aK:bz):List (aa aI×aa aK)->List MapEntry->Prop
 | [],es=>es=[]
 |p::l,es=> ∃e r,es=e::r/\e.key=gI aI p.1/\jn I w aK p.2 e.val/\h4 I w aI aK l r
def lB (es:aF0) (bU:Nat):Prop:=(es.map (·.born)).Pairwise (· < ·)/\ ∀e,e∈es->e.born < bU
def he (I:Nat->Prop) (w:aD8) (u:bz) (xs:List (aa u)) (cs:aD7):Prop:= ∀i x,xs[i]? =some x->cw I w u x (fun j=>cs[i*aR u+j]?)
def Holds (ρ:Nat->bm) (I F:Nat->Prop) (w:aD8) (p:bm):ba->Prop
 | .cells l=>(∀b,F b↔b=p.bh)/\ ∃aB T,w.heap[p.bh]? =some (.cells (List.toArray aB) T (0,0))/\cb ρ I w l aB
 | .row e u xs=>(∀b,F b↔p.fa.ownBlock=some b)/\(∀b,p.fa.ownBlock=some b->b=p.bh)/\ ∃cs,w.ownsRow 0 e (aR u) p.fa xs.length cs/\he I w u xs cs
 | .map aI aK es=>(∀b,F b↔b=p.bh)/\ ∃bP bU,w.heap[p.bh]? =some (.map (List.toArray bP) bU)/\h4 I w aI aK es bP/\lB bP bU
 | .val u x=>(∀b,F b↔b=p.bh)/\ ∃aB T,w.heap[p.bh]? =some (.cells (List.toArray aB) T (0,0))/\aB.length=aR u/\cw I w u x (fun j=>aB[j]?)
 | .aA o=>o.bn I F w p
 | .bY d o=>(o (ρ d)).bn I F w p
def lC (c:Nat):List kc->Bool
 | []=>false
 | .p b _::l=>Nat.beq b c||lC c l
 | .d _::l=>lC c l
def bw.has (c:Nat):bw->Bool
 | .ptr b _=>Nat.beq b c
 | .own b=>Nat.beq b c
 | .fX b _ _ _=>Nat.beq b c
 | .os b _ _ _=>Nat.beq b c
 | .mp b=>Nat.beq b c
 | .cW _ l=>lC c l
 |_=>false
def l3 (c:Nat):List bw->Bool
 | []=>false
 |s::l=>s.has c||l3 c l
def dH.has (c:Nat):dH->Bool
 | .one s=>s.has c
 | .agg l=>l3 c l
 | .jV _ _=>false
def sm (c:Nat):List dH->Bool
 | []=>false
 |s::l=>s.has c||sm c l
def aN.has (c:Nat):aN->Bool
 | .c x=>x.has c
 | .cm l=>sm c l
 | .undef=>false
def ba.has (c:Nat):ba->Bool
 | .cells l=>l3 c l
 | .bY d _=>Nat.beq d c
 |_=>false
section
variable {ρ ρ':Nat->bm} {I I':Nat->Prop} {w w':aD8}
def hK.mono (U:cj I w I' w'): ∀(l:List kc) (aB:aD7),(∀c,lC c l=true->ρ' c=ρ c)->hK ρ I w l aB->hK ρ' I' w' l aB
 | [],_,_,h=>h
 | .p b o::l,_,de,⟨v,r,e,E,G⟩=>⟨v,r,e,(by have e:=de b (by simp[lC]);simp only[ww] at*;rw[e];exact E),hK.mono U l r (fun c J=>de c (by simp[lC,J])) G⟩
 | .d x::l,_,de,⟨v,r,e,E,G⟩=>⟨v,r,e,gA.mono U x v E,hK.mono U l r (fun c J=>de c (by simpa[lC] using J)) G⟩
def dU.mono (U:cj I w I' w') (s:bw) (v:aE7) (de: ∀c,s.has c=true->ρ' c=ρ c) (h:dU ρ I w s v):dU ρ' I' w' s v:=by
 cases s with
 |d x=>exact gA.mono U x v h
 |ptr c off=>
  have e:=de c aC1;simp only[dU] at*;rw[e];exact h
 |own c=>
  have e:=de c aC1;simp only[dU] at*;rw[e];exact h
 |el u x off=>
  obtain⟨b,o,E,G,ag⟩:=h;exact⟨b,o,E,(U b G).1,cw.mono U u x _ _ (fun j v ay=>NK (U b G).2 ay) ag⟩
 |fX c s i off=>
  have e:=de c aC1;simp only[dU] at*;rw[e];exact h
 |os c s off n=>
  have e:=de c aC1;simp only[dU] at*;rw[e];exact h
 |mp c=>
  have e:=de c aC1;simp only[dU] at*;rw[e];exact h
 |cW f l=>obtain⟨aB,e,h⟩:=h;exact⟨aB,e,hK.mono U l aB de h⟩
 |dc=>exact h
 |bH u=>exact h
 |any=>trivial
def cb.mono (U:cj I w I' w'): ∀(l:List bw) (aB:aD7),(∀c,l3 c l=true->ρ' c=ρ c)->cb ρ I w l aB->cb ρ' I' w' l aB
 | [],_,_,h=>h
 |s::l,_,de,⟨v,r,e,E,G⟩=>⟨v,r,e,dU.mono U s v (fun c J=>de c (by simp[l3,J])) E,cb.mono U l r (fun c J=>de c (by simp[l3,J])) G⟩
def gu.mono (U:cj I w I' w') (s:dH) (v:aE7) (de: ∀c,s.has c=true->ρ' c=ρ c) (h:gu ρ I w s v):gu ρ' I' w' s v:=by
 cases s with
 |one s=>exact dU.mono U s v de h
 |agg l=>obtain⟨aB,e,h⟩:=h;exact⟨aB,e,cb.mono U l aB de h⟩
 |jV u x=>obtain⟨aB,e,E,G⟩:=h;exact⟨aB,e,E,cw.mono U u x _ _ (fun _ _ h=>h) G⟩
def iv.mono (U:cj I w I' w'): ∀(l:List dH) (aB:aD7),(∀c,sm c l=true->ρ' c=ρ c)->iv ρ I w l aB->iv ρ' I' w' l aB
 | [],_,_,h=>h
 |s::l,_,de,⟨v,r,e,E,G⟩=>⟨v,r,e,gu.mono U s v (fun c J=>de c (by simp[sm,J])) E,iv.mono U l r (fun c J=>de c (by simp[sm,J])) G⟩
def cv.mono (U:cj I w I' w') (s:aN) (v:aE7) (de: ∀c,s.has c=true->ρ' c=ρ c) (h:cv ρ I w s v):cv ρ' I' w' s v:=by
 cases s with
 |c s=>exact gu.mono U s v de h
 |cm l=>obtain⟨aB,e,h⟩:=h;exact⟨aB,e,iv.mono U l aB de h⟩
 |undef=>exact h
def he.mono (U:cj I w I' w') {u:bz} {xs:List (aa u)} {cs:aD7} (h:he I w u xs cs):he I' w' u xs cs:=fun i x hx=>cw.mono U u x _ _ (fun _ _ h=>h) (h i x hx)
def jn.mono (U:cj I w I' w') {u:bz} {x:aa u} {v:aE7} (h:jn I w u x v):jn I' w' u x v:=⟨h.1,h.2.1,cw.mono U u x _ _ (fun _ _ h=>h) h.2.2⟩
def h4.mono (U:cj I w I' w') {aI aK:bz}: ∀{l:List (aa aI×aa aK)} {es:aF0},h4 I w aI aK l es->h4 I' w' aI aK l es
 | [],_,h=>h
 |_::_,_,⟨e,r,au,E,G,ag⟩=>⟨e,r,au,E,G.mono U,ag.mono U⟩
def WC {e s n:Nat} {v:aE7} {cs:aD7} (h:w.ownsRow 0 e s v n cs) (O: ∀b,v.ownBlock=some b->w'.heap[b]? =w.heap[b]?):w'.ownsRow 0 e s v n cs:=by
 refine⟨h.1,?_⟩;rcases h.2 with h |⟨g,cap,fW,ay,au,aV,r⟩
 .exact .inl h
 .exact .inr ⟨g,cap,fW,ay,au,(O g (by rw[ay];rfl)).trans aV,r⟩
def Holds.cg (U:cj I w I' w') {F:Nat->Prop} (bj: ∀b,F b->w'.heap[b]? =w.heap[b]?) (aO:w.heap.size<=w'.heap.size) {p:bm}: ∀(ch:ba),(∀c,ch.has c=true->ρ' c=ρ c)->Holds ρ I F w p ch->Holds ρ' I' F w' p ch
 | .cells l,de,⟨E,aB,T,G,ag⟩=>⟨E,aB,T,(bj _ ((E _).2 rfl)).trans G,cb.mono U l aB de ag⟩
 | .row e u xs,_,⟨E,G,cs,ag,aS⟩=>⟨E,G,cs,WC ag fun b O=>bj b ((E b).2 O),aS.mono U⟩
 | .map aI aK es,_,⟨E,bP,bU,G,ag,aS⟩=>⟨E,bP,bU,(bj _ ((E _).2 rfl)).trans G,ag.mono U,aS⟩
 | .val u x,_,⟨E,aB,T,G,ag,aS⟩=>⟨E,aB,T,(bj _ ((E _).2 rfl)).trans G,ag,cw.mono U u x _ _ (fun _ _ h=>h) aS⟩
 | .aA o,_,h=>o.cg _ _ _ _ _ _ h U bj aO
 | .bY d o,de,h=>by
  have e:=de d (by simp[ba.has]);simp only[Holds] at*;rw[e];exact(o (ρ d)).cg _ _ _ _ _ _ h U bj aO
end
end
section
abbrev aW:=List (Nat×aN)
abbrev av:=List (Nat×ba)
def dQ:aW->Nat->aN
 | [],_=>.c (.one .any)
 |(t,v)::K,s=>match Nat.beq t s with
  |true=>v
  |false=>dQ K s
def ae:av->Nat->Option ba
 | [],_=>none
 |(t,v)::B,s=>match Nat.beq t s with
  |true=>some v
  |false=>ae B s
def gJ:av->Nat->av
 | [],_=>[]
 |(t,v)::B,s=>match Nat.beq t s with
  |true=>gJ B s
  |false=>(t,v)::gJ B s
def hg (B:av) (c d:Nat):ae (gJ B c) d=if c=d then none else ae B d:=by
 induction B with
 |nil=>simp[gJ,ae]
 |cons x B bl=>
  obtain⟨t,v⟩:=x;unfold gJ
  by_cases h:Nat.beq t c=true
  .have e:=ap8 h;subst e;rw[h];simp only[bl]
   split
   .rfl
   .rename_i a6;simp only[ae];rw[show Nat.beq t d=false by rw[aw6];intro h;exact a6 (ap8 h)]
  .rw[az6] at h;rw[h];simp only[ae]
   by_cases G:Nat.beq t d=true
   .have e:=ap8 G;subst e;rw[mu (fun e=>by subst e;simp at h)];rw[G]
   .rw[az6] at G;rw[G];simpa using bl
def cn (B:av) (c:Nat) (ch:ba) (d:Nat):ae ((c,ch)::B) d=if c=d then some ch else ae B d:=by
 simp only[ae]
 by_cases h:c=d
 .subst h;simp
 .rw[mu h,show Nat.beq c d=false by rw[aw6];intro e;exact h (ap8 e)]
def ke (K:aW) (c:Nat) (v:aN) (d:Nat):dQ ((c,v)::K) d=if c=d then v else dQ K d:=by
 rw[dQ.eq_def]
 by_cases h:c=d
 .subst h;simp
 .simp only[mu h,show Nat.beq c d=false by rw[aw6];intro e;exact h (ap8 e)]
def NL (a:Act) (s:Nat) (v:aE7):Prop:=a.tmps.getD s undef=v
def NM {a:Act} {d:Nat} {v:aE7} (h:d < a.tmps.size):NL (a.put (some d) v) d v:=by simp[NL,Act.put,h]
def WD {a:Act} {d s:Nat} {v:aE7} (h:d≠s):a.tmps.getD s undef=(a.put (some d) v).tmps.getD s undef:=by simp[Act.put,av6 h]
def kf {a:Act} {d:aE2} {v:aE7}:(a.put d v).tmps.size=a.tmps.size:=by cases d <;>simp[Act.put]
def kg {a:Act} {d:aE2} {v:aE7}:(a.put d v).defers=a.defers:=by cases d <;>simp[Act.put]
structure eZ where
 gq:World
 yl:Nat->Prop
 py:Nat->Prop
 l4:Nat->bm
 ds:aD3
def wx (D:Nat):Deferred:={target:=.collected D,args:= #[]}
def bX (C:eZ) (B:av) (F:Nat->Nat->Prop) (w:aD8):Nat->Prop:=fun b=>
 b < w.heap.size/\(C.yl b\/C.py b\/C.gq.heap.size<=b/\b∉C.ds)/\ ∀c ch,ae B c=some ch-> ¬F c b
structure Mem (ids:aD3) (C:eZ) (B:av) (ρ:Nat->bm) (F:Nat->Nat->Prop) (w:aD8):Prop where
 fr:cR C.py C.gq w
 holds: ∀c ch,ae B c=some ch->Holds ρ (bX C B F w) (F c) w (ρ c) ch
 own: ∀c ch,ae B c=some ch-> ∀b,F c b->b < w.heap.size/\(C.py b\/C.gq.heap.size<=b/\b∉C.ds)
 e0: ∀c ck ch ch' b,ae B c=some ch->ae B ck=some ch'->c≠ck->F c b-> ¬F ck b
 l1: ∀c,c∈ids->ρ c=C.l4 c
 kH:C.ds.Nodup/\(∀b,C.yl b\/C.py b->b < C.gq.heap.size)/\ ∀D,D∈C.ds->D < w.heap.size/\w.heap[D]? =some (.deferred (some []))/\C.gq.heap.size<=D
def eh (K:aW) (ρ:Nat->bm) (I:Nat->Prop) (a:Act) (w:aD8):Prop:= ∀s,cv ρ I w (dQ K s) (a.tmps.getD s undef)
def eS (N:Nat) (ids:aD3) (C:eZ) (K:aW) (B:av) (a:Act) (w:aD8):Prop:=
 a.tmps.size=N/\a.defers=C.ds.map wx/\ ∃ρ F,Mem ids C B ρ F w/\eh K ρ (bX C B F w) a w
def Mem.fresh {ids:aD3} {C:eZ} {B:av} {ρ:Nat->bm} {F:Nat->Nat->Prop} {w:aD8} (h:Mem ids C B ρ F w) {b:Nat} (O:w.heap.size<=b):C.gq.heap.size<=b/\b∉C.ds:=
 ⟨av9 h.fr.size O,fun H=>by have:=(h.kH.2.2 b H).1;omega⟩
def Mem.step {ids:aD3} {C:eZ} {B B':av} {ρ ρ':Nat->bm} {F F':Nat->Nat->Prop} {w w':aD8} (h:Mem ids C B ρ F w) (M Dz:Nat->Prop)
  (cC:cR (fun b=> ∃c ch,ae B c=some ch/\M c/\F c b) w w')
  (qn: ∀c ch,ae B' c=some ch-> ¬M c->ae B c=some ch)
  (de: ∀c,¬Dz c->ρ' c=ρ c) (bj: ∀c,¬M c->F' c=F c) (Hx: ∀c,c∈ids-> ¬Dz c)
  (mF: ∀c,Dz c->M c)
  (named: ∀c ch,ae B c=some ch-> ¬M c-> ∀d,ch.has d=true-> ¬Dz d)
  (new: ∀c ch,ae B' c=some ch->M c->cj (bX C B F w) w (bX C B' F' w') w'->Holds ρ' (bX C B' F' w') (F' c) w' (ρ' c) ch)
  (DA: ∀c ch,ae B' c=some ch->M c-> ∀b,F' c b->b < w'.heap.size/\((∃gK cA,ae B gK=some cA/\M gK/\F gK b)\/w.heap.size<=b))
  (WE: ∀c ck ch ch' b,ae B' c=some ch->ae B' ck=some ch'->M c->M ck->c≠ck->F' c b-> ¬F' ck b):
  Mem ids C B' ρ' F' w'/\cj (bX C B F w) w (bX C B' F' w') w':=by
 have aO:=h.fr.size
 have Hy:cj (bX C B F w) w (bX C B' F' w') w':=by
  rintro b ⟨E,G,ag⟩;refine⟨⟨aq8 E cC.size,G,fun c ch J=>?_⟩,cC.block b E ?_⟩
  .by_cases ah:M c
   .intro O;obtain⟨_,c7⟩:=DA c ch J ah b O;rcases c7 with⟨gK,cA,af,_,al⟩ |c7
    .exact ag gK cA af al
    .omega
   .rw[bj c ah];exact ag c ch (qn c ch J ah)
  .rintro⟨c,ch,af,_,al⟩;exact ag c ch af al
 have WF: ∀c ch,ae B c=some ch-> ¬M c-> ∀b,F c b->w'.heap[b]? =w.heap[b]? :=fun c ch J ah b O=>
  cC.block b (h.own c ch J b O).1 (by
   rintro⟨gK,cA,af,al,bt⟩;exact h.e0 c gK ch cA b J af (fun e=>ah (e▸al)) O bt)
 refine⟨⟨?_,?_,?_,?_,?_,?_⟩,Hy⟩
 .refine h.fr.trans cC ?_;rintro b O ⟨c,ch,af,_,al⟩;rcases(h.own c ch af b al).2 with h' |h'
  .exact h'
  .have:=h'.1;omega
 .intro c ch J
  by_cases ah:M c
  .exact new c ch J ah Hy
  .have ai:=qn c ch J ah;rw[bj c ah,de c (fun hn=>ah (mF c hn))];exact Holds.cg Hy (WF c ch ai ah) cC.size ch (fun d H=>de d (named c ch ai ah d H)) (h.holds c ch ai)
 .intro c ch J b O
  by_cases ah:M c
  .obtain⟨E,G⟩:=DA c ch J ah b O;refine⟨E,?_⟩;rcases G with⟨gK,cA,af,_,al⟩ |G
   .exact(h.own gK cA af b al).2
   .exact .inr (h.fresh G)
  .rw[bj c ah] at O;obtain⟨E,G⟩:=h.own c ch (qn c ch J ah) b O;exact⟨aq8 E cC.size,G⟩
 .intro c ck ch ch' b J c0 a6 O c7
  by_cases ah:M c
  .by_cases bK:M ck
   .exact WE c ck ch ch' b J c0 ah bK a6 O c7
   .rw[bj ck bK] at c7;have sn:=qn ck ch' c0 bK;rcases(DA c ch J ah b O).2 with⟨gK,cA,af,bt,al⟩ |G
    .exact h.e0 gK ck cA ch' b af sn (fun e=>bK (e▸bt)) al c7
    .have:=(h.own ck ch' sn b c7).1;omega
  .rw[bj c ah] at O;have ai:=qn c ch J ah
   by_cases bK:M ck
   .rcases(DA ck ch' c0 bK b c7).2 with⟨gK,cA,af,bt,al⟩ |G
    .exact h.e0 gK c cA ch b af ai (fun e=>ah (e▸bt)) al O
    .have:=(h.own c ch ai b O).1;omega
   .rw[bj ck bK] at c7;exact h.e0 c ck ch ch' b ai (qn ck ch' c0 bK) a6 O c7
 .intro c J;rw[de c (Hx c J)];exact h.l1 c J
 .refine⟨h.kH.1,h.kH.2.1,fun D cx=>?_⟩;obtain⟨g1,g2,cX⟩:=h.kH.2.2 D cx;refine⟨aq8 g1 cC.size,(cC.block D g1 ?_).trans g2,cX⟩;rintro⟨c,ch,af,_,al⟩;rcases(h.own c ch af D al).2 with h' |h'
  .have:=h.kH.2.1 D (.inr h');omega
  .exact h'.2 cx
def Mem.below {ids:aD3} {C:eZ} {B:av} {ρ:Nat->bm} {F:Nat->Nat->Prop} {w w':aD8} (h:Mem ids C B ρ F w) (O:Below w.heap.size w w'):
  Mem ids C B ρ F w'/\cj (bX C B F w) w (bX C B F w') w':=
 h.step (fun _=>False) (fun _=>False) (cR.qh O) (fun _ _ h _=>h) (fun _ _=>rfl) (fun _ _=>rfl) (fun _ _ h=>h) (fun _ h=>h) (fun _ _ _ _ _ _ h=>h) (fun _ _ _ h=>h.elim) (fun _ _ _ h=>h.elim) (fun _ _ _ _ _ _ _ h=>h.elim)
def eh.mono {K:aW} {ρ ρ':Nat->bm} {I I':Nat->Prop} {a:Act} {w w':aD8} (h:eh K ρ I a w) (U:cj I w I' w') (de: ∀s c,(dQ K s).has c=true->ρ' c=ρ c):eh K ρ' I' a w':=
 fun s=>cv.mono U _ _ (de s) (h s)
def eh.put {K:aW} {ρ:Nat->bm} {I:Nat->Prop} {a:Act} {w:aD8} (h:eh K ρ I a w) {d:Nat} {v:aN} {x:aE7} (H:d < a.tmps.size) (ay:cv ρ I w v x):eh ((d,v)::K) ρ I (a.put (some d) x) w:=fun s=>by
 rw[ke]
 by_cases e:d=s
 .subst e;rw[vj rfl,show(a.put (some d) x).tmps.getD d undef=x from NM H];exact ay
 .rw[mu e,<-WD e];exact h s
def l5 (d:aE2) (v:aN) (K:aW):aW:=match d with
 |some d=>(d,v)::K
 |none=>K
def eh.kh {K:aW} {ρ:Nat->bm} {I:Nat->Prop} {a:Act} {w:aD8} (h:eh K ρ I a w) {d:aE2} {v:aN} {x:aE7} (H: ∀e,d=some e->e < a.tmps.size) (ay:cv ρ I w v x):eh (l5 d v K) ρ I (a.put d x) w:=by
 cases d with
 |none=>exact h
 |some d=>exact h.put (H d rfl) ay
def u0:Value->bw
 | .int k n=>.d (.int k n)
 | .bool b=>.d (.lit b)
 | .string s=>.d (.str s.data.toList)
 | .slice none 0 0=>.dc
 |v=>.bH v
def NN (ρ:Nat->bm) (I:Nat->Prop) (w:aD8) (v:aE7):dU ρ I w (u0 v) v:=by
 unfold u0
 split <;>simp[dU,gA]
def DB:Value->aN
 | .agg cs=>.c (.agg (cs.toList.map u0))
 |v=>.c (.one (u0 v))
def NO (ρ:Nat->bm) (I:Nat->Prop) (w:aD8): ∀aB:List Value,cb ρ I w (aB.map u0) aB
 | []=>rfl
 |v::aB=>⟨v,aB,rfl,NN ρ I w v,NO ρ I w aB⟩
def WG (ρ:Nat->bm) (I:Nat->Prop) (w:aD8) (v:aE7):cv ρ I w (DB v) v:=by
 unfold DB
 split
 .rename_i cs;exact⟨cs.toList,az9,NO ρ I w _⟩
 .exact NN ρ I w v
def a1 (K:aW):Operand->aN
 | .tmp t=>dQ K t
 | .const v=>DB v
 | .func f=>.c (.one (.cW f []))
 | .global g=>.c (.one (.bH (.pointer (some ⟨g,0,none⟩))))
def eh.get {K:aW} {ρ:Nat->bm} {I:Nat->Prop} {a:Act} {w:aD8} (h:eh K ρ I a w) (x:aE0):cv ρ I w (a1 K x) (a.eval x):=by
 cases x with
 |tmp t=>exact h t
 |const v=>exact WG ρ I w v
 |func f=>exact⟨[],rfl,rfl⟩
 |global g=>rfl
end
section
def ym (a b:Int):Bool:=decide (a=b)
def yn (a b:aD2):Bool:=decide (a=b)
def fD:(u:bz)->aa u->aa u->Bool
 | .int _,a,b=>ym a b
 | .str,a,b=>yn a b
 |_,_,_=>false
def bV {aI aK:bz}:List (aa aI×aa aK)->aa aI->Option (aa aK)
 | [],_=>none
 |p::l,k=>match fD aI k p.1 with
  |true=>some p.2
  |false=>bV l k
def dw {aI aK:bz}:List (aa aI×aa aK)->aa aI->aa aK->List (aa aI×aa aK)
 | [],k,x=>[(k,x)]
 |p::l,k,x=>match fD aI k p.1 with
  |true=>(k,x)::l
  |false=>p::dw l k x
def gB {aI aK:bz}:List (aa aI×aa aK)->aa aI->List (aa aI×aa aK)
 | [],_=>[]
 |p::l,k=>match fD aI k p.1 with
  |true=>l
  |false=>p::gB l k
def mG:bz->TypeDesc->Bool
 | .int k,.int d4=>k == d4
 | .str,.string=>true
 |_,_=>false
section
variable {P:aD9} {I:Nat->Prop} {w:aD8} {aI aK:bz}
def so {d:aF3} (H:mG aI d=true) (a:aa aI):MapKept.IsKey d (gI aI a):=by
 cases aI <;>cases d <;>simp[mG] at H
 .subst H;simp[gI,MapKept.IsKey]
 .simp[gI,MapKept.IsKey]
def Hz {d:aF3} (H:mG aI d=true) (a b:aa aI):gI aI a=gI aI b↔fD aI a b=true:=by
 cases aI <;>cases d <;>simp[mG] at H
 .have: ∀(k:IntKind) (a b:Int),Value.int k a=Value.int k b↔ym a b=true:=fun k a b=>by simp[ym]
  exact this _ a b
 .have: ∀(a b:aD2),Value.string ⟨List.toArray a⟩=Value.string ⟨List.toArray b⟩↔yn a b=true:=fun a b=>by simp[yn]
  exact this a b
def AU: ∀{l:List (aa aI×aa aK)} {es:aF0},h4 I w aI aK l es->es.length=l.length
 | [],_,h=>by rw[show _=[] from h];rfl
 |p::l,_,⟨e,r,h,_,_,ag⟩=>by rw[h,as9,as9,AU ag]
def AV {d:aF3} (H:mG aI d=true) (k:aa aI): ∀(l:List (aa aI×aa aK)) (es:aF0) (i:Nat),h4 I w aI aK l es->
  (Instr.findNow d (gI aI k) es i=some none/\bV l k=none/\(∀x,dw l k x=l++[(k,x)])/\gB l k=l)\/
  ∃(j:Nat) (x:aa aK) (e:MapEntry),Instr.findNow d (gI aI k) es i=some (some (i+j,e.val))/\bV l k=some x/\es[j]? =some e/\e.key=gI aI k/\jn I w aK x e.val/\(∀y,dw l k y=l.set j (k,y))/\gB l k=l.eraseIdx j
 | [],_,i,h=>by
  rw[show _=[] from h];exact .inl ⟨rfl,rfl,fun _=>rfl,rfl⟩
 |p::l,_,i,⟨e,r,h,E,G,ag⟩=>by
  subst h;obtain⟨b,O,qo⟩:=MapKept.sameNow_of_keys (so H k) (so H p.1);rw[<-E] at O
  cases Z:fD aI k p.1 with
  |true=>
   have ki:b=true:=qo.2 ((Hz H k p.1).2 Z);subst ki;refine .inr ⟨0,p.2,e,by simp[Instr.findNow,O],by simp[bV,Z],rfl,by rw[E];exact((Hz H k p.1).2 Z).symm,G,fun y=>by simp[dw,Z],by simp[gB,Z]⟩
  |false=>
   have WH:b=false:=by
    cases b with
    |false=>rfl
    |true=>have:=(Hz H k p.1).1 (qo.1 rfl);rw[Z] at this;cases this
   subst WH;rcases AV H k l r (i+1) ag with⟨bR,b',a3,a4⟩ |⟨j,x,ca,bR,b',a3,a4,a5,ft,qp⟩
   .exact .inl ⟨by simp[Instr.findNow,O,bR],by simp[bV,Z,b'],fun y=>by simp[dw,Z,a3],by simp[gB,Z,a4]⟩
   .exact .inr ⟨j+1,x,ca,by simp[Instr.findNow,O,bR];omega,by simp[bV,Z,b'],by simpa using a3,a4,a5,fun y=>by simp[dw,Z,ft],by simp[gB,Z,qp]⟩
def NP {t kt et:aE4} {d:aF3} (cq:P.underlying t=some (.map kt et)) (Z:P.underlying kt=some d) (H:mG aI d=true) {b:Nat} {bP:aF0} {bU:Nat} (O:w.heap[b]? =some (.map (List.toArray bP) bU))
  {l:List (aa aI×aa aK)} (aD:h4 I w aI aK l bP) {aF:aE7} (aO:(zeroValue et).run P w= .ok aF w) (yo:jn I w aK (cM aK) aF) (k:aa aI) (c:Bool):
  ∃v,(Instr.lookup t (.map (some b)) (gI aI k) c).run P w= .ok (if c then .tuple #[v,.bool (bV l k).isSome] else v) w/\jn I w aK ((bV l k).getD (cM aK)) v:=by
 have J:=fun e=>MapKept.run_checkKey (P:=P) (w:=w) Z (so H k) e 9999
 rcases AV (I:=I) (w:=w) H k l bP 0 aD with⟨bR,b',_⟩ |⟨j,x,e,bR,b',_,_,a5,_⟩
 .refine⟨aF,?_,by rw[b'];exact yo⟩;have hf:=MapKept.run_findKey (P:=P) (w:=w) Z bR;rw[b'];simp[Instr.lookup,run_underlying cq,av0 O,J,hf,aO,Result.andThen]
 .refine⟨e.val,?_,by rw[b'];exact a5⟩;have hf:=MapKept.run_findKey (P:=P) (w:=w) Z bR;rw[b'];simp[Instr.lookup,run_underlying cq,av0 O,J,hf,Result.andThen]
def NQ: ∀{l:List (aa aI×aa aK)} {es:aF0},h4 I w aI aK l es-> ∀{k:aa aI} {x:aa aK} {e:MapEntry},e.key=gI aI k->jn I w aK x e.val->h4 I w aI aK (l++[(k,x)]) (es++[e])
 | [],_,h,k,x,e,E,G=>by rw[show _=[] from h];exact⟨e,[],rfl,E,G,rfl⟩
 |p::l,_,⟨ca,r,h,bR,b',a3⟩,k,x,e,E,G=>by rw[h];exact⟨ca,r++[e],rfl,bR,b',NQ a3 E G⟩
def NR: ∀{l:List (aa aI×aa aK)} {es:aF0},h4 I w aI aK l es-> ∀{k:aa aI} {x:aa aK} {e:MapEntry} (j:Nat),e.key=gI aI k->jn I w aK x e.val->h4 I w aI aK (l.set j (k,x)) (es.set j e)
 | [],_,h,k,x,e,j,E,G=>by rw[show _=[] from h];rfl
 |p::l,_,⟨ca,r,h,bR,b',a3⟩,k,x,e,0,E,G=>by rw[h];exact⟨e,r,rfl,E,G,a3⟩
 |p::l,_,⟨ca,r,h,bR,b',a3⟩,k,x,e,j+1,E,G=>by rw[h];exact⟨ca,r.set j e,rfl,bR,b',NR a3 j E G⟩
def NS: ∀{l:List (aa aI×aa aK)} {es:aF0},h4 I w aI aK l es-> ∀(j:Nat),h4 I w aI aK (l.eraseIdx j) (es.eraseIdx j)
 | [],_,h,j=>by rw[show _=[] from h];rfl
 |p::l,_,⟨ca,r,h,bR,b',a3⟩,0=>by rw[h];exact a3
 |p::l,_,⟨ca,r,h,bR,b',a3⟩,j+1=>by rw[h];exact⟨ca,r.eraseIdx j,rfl,bR,b',NS a3 j⟩
def NT {es:aF0} {c:Nat} (h:lB es c) (key val:aE7):lB (es++[⟨key,val,c⟩]) (c+1):=by
 refine⟨?_,fun e U=>?_⟩
 .rw[au2,List.pairwise_append];refine⟨h.1,az9,fun a ha b O=>?_⟩;obtain⟨e,U,rfl⟩:=ar6.1 ha;simp only[aq5,ay9,aq6] at O;subst O;exact h.2 e U
 .rcases ar7.1 U with U |U
  .have:=h.2 e U;omega
  .simp only[aq6] at U;subst U;simp
def WI {es:aF0} {c:Nat} (h:lB es c) {j:Nat} {bI e:MapEntry} (V:es[j]? =some bI) (O:e.born=bI.born):lB (es.set j e) c:=by
 have aD:(es.set j e).map (·.born)=es.map (·.born):=by
  rw[List.map_set];refine aw5 fun i=>?_
  rw[aw1]
  split
  .rename_i aG;subst aG;have:=(ap6.1 V).1;rw[vj (by simpa using this),ar1,V,O];rfl
  .rfl
 refine⟨by rw[aD];exact h.1,fun x hx=>?_⟩;have E:x.born∈(es.set j e).map (·.born):=ar8 hx;rw[aD] at E;obtain⟨y,aC,WJ⟩:=ar6.1 E;rw[<-WJ];exact h.2 y aC
def WK {es:aF0} {c:Nat} (h:lB es c) (j:Nat):lB (es.eraseIdx j) c:=
 ⟨h.1.sublist ((List.eraseIdx_sublist es j).map _),fun e U=>h.2 e ((List.eraseIdx_sublist es j).subset U)⟩
def WL (a:aa aI) {d:aF3} (H:mG aI d=true) (n:Nat):Instr.sameBits (n+1) (gI aI a) (gI aI a)=true:=by
 cases aI <;>cases d <;>simp[mG] at H
 .have: ∀(k:IntKind) (a:Int),Instr.sameBits (n+1) (.int k a) (.int k a)=true:=fun k a=>by simp[Instr.sameBits]
  exact this _ a
 .simp only[gI,Instr.sameBits];exact(MapKept.bytes_beq _ _).2 rfl
def AW {t kt et:aE4} {d:aF3} (cq:P.underlying t=some (.map kt et)) (Z:P.underlying kt=some d) (H:mG aI d=true) {b:Nat} {bP:aF0} {bU:Nat} (O:w.heap[b]? =some (.map (List.toArray bP) bU))
  {l:List (aa aI×aa aK)} (aD:h4 I w aI aK l bP) (dh:lB bP bU) (k:aa aI) {x:aa aK} {v:aE7} (ay:jn I w aK x v):
  ∃eK jE,(Instr.mapUpdate t (.map (some b)) (gI aI k) v).run P w= .ok () {w with heap:=w.heap.setIfInBounds b (.map (List.toArray eK) jE)}/\h4 I w aI aK (dw l k x) eK/\lB eK jE:=by
 have J:=fun e=>MapKept.run_checkKey (P:=P) (w:=w) Z (so H k) e 9999
 have e1:=fun o=>MapKept.run_setObj_map (P:=P) o O
 rcases AV (I:=I) (w:=w) H k l bP 0 aD with⟨bR,b',a3,_⟩ |⟨j,y,e,bR,b',a3,a4,a5,ft,_⟩
 .have hf:=MapKept.run_findKey (P:=P) (w:=w) Z bR;refine⟨bP++[⟨gI aI k,v,bU⟩],bU+1,?_,by rw[a3];exact NQ aD rfl ay,NT dh _ _⟩;simp[Instr.mapUpdate,run_underlying cq,av0 O,J,hf,e1,Result.andThen]
 .have hf:=MapKept.run_findKey (P:=P) (w:=w) Z bR;have rn:=(ap6.1 a3).1;refine⟨bP.set j ⟨gI aI k,v,e.born⟩,bU,?_,by rw[ft];exact NR aD j rfl ay,WI dh a3 rfl⟩
  have NU:bP.modify j (fun ca=>{ca with key:=gI aI k,val:=v})=bP.set j ⟨gI aI k,v,e.born⟩:=by
   refine aw5 fun i=>?_
   rw[List.getElem?_modify,aw1]
   by_cases gf:j=i
   .subst gf;have U:=(ap6.1 a3).2;simp[rn,U]
   .simp[gf]
  simp[Instr.mapUpdate,run_underlying cq,av0 O,J,hf,e1,Result.andThen,a3,a4,Instr.keyThatStays,WL k H,NU]
def NV {t kt et ty:aE4} {d:aF3} (cq:P.underlying t=some (.map kt et)) (Z:P.underlying kt=some d) (H:mG aI d=true) {b:Nat} {bP:aF0} {bU:Nat} (O:w.heap[b]? =some (.map (List.toArray bP) bU))
  {l:List (aa aI×aa aK)} (aD:h4 I w aI aK l bP) (dh:lB bP bU) (k:aa aI) (WM:aE4):
  ∃eK,(Builtin.delete_ #[t,WM] ty #[.map (some b),gI aI k]).run P w= .ok (.tuple #[]) {w with heap:=w.heap.setIfInBounds b (.map (List.toArray eK) bU)}/\h4 I w aI aK (gB l k) eK/\lB eK bU:=by
 have J:=fun e=>MapKept.run_checkKey (P:=P) (w:=w) Z (so H k) e 9999
 have e1:=fun o=>MapKept.run_setObj_map (P:=P) o O
 rcases AV (I:=I) (w:=w) H k l bP 0 aD with⟨bR,b',_,a3⟩ |⟨j,y,e,bR,b',a3,a4,a5,_,ft⟩
 .have hf:=MapKept.run_findKey (P:=P) (w:=w) Z bR;refine⟨bP,?_,by rw[a3];exact aD,dh⟩;simp[Builtin.delete_,run_underlying cq,av0 O,J,hf,e1,Result.andThen]
 .have hf:=MapKept.run_findKey (P:=P) (w:=w) Z bR;have rn:=(ap6.1 a3).1;refine⟨bP.eraseIdx j,?_,by rw[ft];exact NS aD j,WK dh j⟩
  have WN:(List.toArray bP).eraseIdxIfInBounds j=List.toArray (bP.eraseIdx j):=by
   apply Array.ext';unfold Array.eraseIdxIfInBounds;rw[dif_pos (by simpa using rn)];simp
  simp[Builtin.delete_,run_underlying cq,av0 O,J,hf,e1,Result.andThen,WN]
def WO {t:aE4}:(Instr.makeMap t none).run P w= .ok (.map (some w.heap.size)) (w.alloc (.map #[] 0)):=by simp only[Instr.makeMap,as8,run_newObj_alloc,Result.andThen,at8]
end
end
section
inductive NW where
 |int (k:IntKind)
 |bool
 |str
 |ptr (e:Nat)
 |ce (e:Nat)
 |st
 |arr (n e:Nat)
 |mp (k e:Nat)
 |other
structure b5 where
 kd:NW
 size:Nat
 row:Bool
 zero:List bw
 l6:List (Nat×Nat)
 u:Option bz
 bytes:Nat
inductive df where
 |leaf
 |node (l:df) (k:Nat) (x:b5) (r:df)
def df.find:df->Nat->Option b5
 | .leaf,_=>none
 | .node l k x r,n=>match Nat.blt n k with
  |true=>l.find n
  |false=>match Nat.beq n k with
   |true=>some x
   |false=>r.find n
def yp (x:D) (k:D->Prop):Prop:=match x with
 | .int i n=>k (.int i n)
 | .lit true=>k (.lit true)
 | .lit false=>k (.lit false)
 | .bool b=>k (.bool b)
 | .str s=>k (.str s)
 | .aM x=>k (.aM x)
 | .dd x=>k (.dd x)
 | .fn x=>k (.fn x)
 | .cr u xs=>k (.cr u xs)
def yq (s:bw) (k:bw->Prop):Prop:=match s with
 | .d x=>yp x fun x=>k (.d x)
 | .ptr c o=>k (.ptr c o)
 | .own c=>k (.own c)
 | .el u x o=>k (.el u x o)
 | .fX c s i o=>k (.fX c s i o)
 | .os c s o n=>k (.os c s o n)
 | .mp c=>k (.mp c)
 | .cW f l=>k (.cW f l)
 | .dc=>k .dc
 | .bH v=>k (.bH v)
 | .any=>k .any
def oN (l:List bw) (k:List bw->Prop):Prop:=match l with
 | []=>k []
 |s::l=>yq s fun s=>oN l fun l=>k (s::l)
def wy (x:dH) (k:dH->Prop):Prop:=match x with
 | .one s=>yq s fun s=>k (.one s)
 | .agg l=>oN l fun l=>k (.agg l)
 | .jV u x=>k (.jV u x)
def DC (l:List dH) (k:List dH->Prop):Prop:=match l with
 | []=>k []
 |s::l=>wy s fun s=>DC l fun l=>k (s::l)
def n' (x:aN) (k:aN->Prop):Prop:=match x with
 | .c x=>wy x fun x=>k (.c x)
 | .cm l=>DC l fun l=>k (.cm l)
 | .undef=>k .undef
def HA (x:D) (k:D->Prop):yp x k=k x:=by
 cases x with
 |lit b=>cases b <;>rfl
 |_=>rfl
def HB (x:bw) (k:bw->Prop):yq x k=k x:=by
 cases x with
 |d x=>simp only[yq,HA]
 |_=>rfl
def yr (l:List bw) (k:List bw->Prop):oN l k=k l:=by
 induction l generalizing k with
 |nil=>rfl
 |cons s l bl=>simp only[oN,HB,bl]
def DD (x:dH) (k:dH->Prop):wy x k=k x:=by
 cases x with
 |one x=>simp only[wy,HB]
 |agg l=>simp only[wy,yr]
 |jV u x=>rfl
def WP (l:List dH) (k:List dH->Prop):DC l k=k l:=by
 induction l generalizing k with
 |nil=>rfl
 |cons s l bl=>simp only[DC,DD,bl]
def ro (x:aN) (k:aN->Prop):n' x k=k x:=by
 cases x with
 |c x=>simp only[n',DD]
 |cm l=>simp only[n',WP]
 |undef=>rfl
structure fb where
 iW:aD3
 bb:aD3
 ih:List (Nat×Option ba)
abbrev bI:fb:=⟨[],[],[]⟩
def g0:List (Nat×Option ba)->av->av
 | [],B=>B
 |(c,none)::l,B=>g0 l (gJ B c)
 |(c,some ch)::l,B=>g0 l ((c,ch)::B)
def yt (c:Nat):aD3->Bool
 | []=>false
 |d::l=>match Nat.beq c d with
  |true=>true
  |false=>yt c l
def tv (ks:aD3):av->av
 | []=>[]
 |(c,ch)::B=>match yt c ks with
  |true=>tv ks B
  |false=>(c,ch)::tv ks B
def DE: ∀B:av,tv [] B=B
 | []=>rfl
 |(c,ch)::B=>ap1 ((c,ch):: ·) (DE B)
def NX (c:Nat) (ks:aD3): ∀B:av,tv (c::ks) B=gJ (tv ks B) c
 | []=>rfl
 |(d,ch)::B=>by
  have bl:=NX c ks B;simp only[tv,yt]
  cases E:Nat.beq d c <;>cases G:yt d ks <;>simp only[gJ,E,bl]
noncomputable def DF (ks:aD3) (B:av) (k:av->Prop):Prop:=match ks with
 | []=>k B
 |ks=>List.rec (motive:=fun _=>(av->Prop)->Prop) (fun k=>k []) (fun p _ bl k=>match p with
  |(c,ch)=>match yt c ks with
   |true=>bl k
   |false=>bl fun l=>k ((c,ch)::l)) B k
def NY (ks:aD3) (B:av) (k:av->Prop):DF ks B k=k (tv ks B):=by
 match ks with
 | []=>exact ap1 k (DE B).symm
 |d::ks=>
  show List.rec (motive:=fun _=>(av->Prop)->Prop) _ _ B k=_
  induction B generalizing k with
  |nil=>rfl
  |cons p l bl=>
   obtain⟨c,ch⟩:=p;simp only[tv]
   cases h:yt c (d::ks)
   .exact bl _
   .exact bl _
noncomputable def HC (ih:List (Nat×Option ba)) (ks:aD3) (B:av) (k:av->Prop):Prop:=
 List.rec (motive:=fun _=>aD3->av->Prop) (fun ks B=>DF ks B k) (fun p _ bl ks B=>match p with
  |(c,none)=>bl (c::ks) B
  |(c,some ch)=>DF ks B fun B=>bl [] ((c,ch)::B)) ih ks B
noncomputable def wz (ih:List (Nat×Option ba)) (B:av) (k:av->Prop):Prop:=HC ih [] B k
def WQ (ih:List (Nat×Option ba)) (k:av->Prop): ∀(ks:aD3) (B:av),HC ih ks B k=k (g0 ih (tv ks B)):=by
 induction ih with
 |nil=>exact fun ks B=>NY ks B k
 |cons p l bl=>
  intro ks B;obtain⟨c,o⟩:=p
  cases o with
  |none=>exact(bl (c::ks) B).trans (by rw[NX];rfl)
  |some ch=>
   show DF ks B (fun B=>HC l [] ((c,ch)::B) k)=_;rw[NY,bl,DE];rfl
def HD (ih:List (Nat×Option ba)) (B:av) (k:av->Prop):wz ih B k=k (g0 ih B):=(WQ ih k [] B).trans (by rw[DE])
def tw (c:Nat):aW->Bool
 | []=>true
 |(_,v)::K=> !v.has c&&tw c K
def kj (c:Nat):av->Bool
 | []=>true
 |(d,ch)::B=> !Nat.beq d c&& !ch.has c&&kj c B
def gS (ids:aD3) (K:aW) (B:av) (c:Nat):Bool:=tw c K&&kj c B&& !ids.contains c
abbrev mH (s:bw):aN:=.c (.one s)
abbrev ab (n:Int):aN:=.c (.one (.d (.int .i64 n)))
abbrev gT (b:Bool):aN:=.c (.one (.d (.bool b)))
abbrev oa (b:Bool):aN:=.c (.one (.d (.lit b)))
abbrev bS (s:aD2):aN:=.c (.one (.d (.str s)))
abbrev b0 (u:bz) (xs:List (aa u)):aN:=.c (.one (.d (.cr u xs)))
abbrev ap (c:Nat):aN:=.c (.one (.ptr c 0))
abbrev eX (c:Nat):aN:=.c (.one (.own c))
def bw.ok:bw->Bool
 | .any=>false
 | .bH (.agg _)=>false
 | .bH (.tuple _)=>false
 |_=>true
def DG:List bw->Bool
 | []=>true
 |s::l=>s.ok&&DG l
def u1:aN->Option (List bw)
 | .c (.one s)=>match s.ok with
  |true=>some [s]
  |false=>none
 | .c (.agg l)=>match DG l with
  |true=>some l
  |false=>none
 |_=>none
def AX (l:List bw) (o:Nat) (cs:List bw):List bw:=l.take o++cs++l.drop (o+cs.length)
def u2 (K:aW) (l6:Nat->Option (Nat×Nat)):List (Nat×Operand)->List bw->Option (List bw)
 | [],l=>some l
 |(i,x)::bE,l=>match l6 i,u1 (a1 K x) with
  |some (o,n),some cs=>match Nat.beq cs.length n,Nat.ble (o+n) l.length with
   |true,true=>u2 K l6 bE (AX l o cs)
   |_,_=>none
  |_,_=>none
def qq:(u v:bz)->Option (PLift (u=v))
 | .int .i64,.int .i64=>some ⟨rfl⟩
 | .int .u8,.int .u8=>some ⟨rfl⟩
 | .int .u16,.int .u16=>some ⟨rfl⟩
 | .int .u32,.int .u32=>some ⟨rfl⟩
 | .int .u64,.int .u64=>some ⟨rfl⟩
 | .int .i32,.int .i32=>some ⟨rfl⟩
 | .u8,.u8=>some ⟨rfl⟩
 | .bool,.bool=>some ⟨rfl⟩
 | .str,.str=>some ⟨rfl⟩
 | .aM,.aM=>some ⟨rfl⟩
 | .dd,.dd=>some ⟨rfl⟩
 | .fn,.fn=>some ⟨rfl⟩
 | .ce u,.ce v=>match qq u v with
  |some ⟨h⟩=>some ⟨ap1 bz.ce h⟩
  |none=>none
 | .bT u sq,.bT v dp=>match qq u v,qq sq dp with
  |some ⟨h⟩,some ⟨h'⟩=>some ⟨h▸h'▸rfl⟩
  |_,_=>none
 | .arr n u,.arr m v=>match qq u v with
  |some ⟨h⟩=>if hn:n=m then some ⟨hn▸h▸rfl⟩ else none
  |none=>none
 |_,_=>none
def lD:IntKind->IntKind->Bool
 | .i64,.i64=>true
 | .u8,.u8=>true
 | .u16,.u16=>true
 | .u32,.u32=>true
 | .u64,.u64=>true
 | .i32,.i32=>true
 | .i16,.i16=>true
 | .i8,.i8=>true
 |_,_=>false
def nn {u v:bz} (h:u=v) (xs:List (aa u)):List (aa v):=match v,h with
 |_,rfl=>xs
def HE {u v:bz} (h:u=v) (x:aa u):aa v:=match v,h with
 |_,rfl=>x
def HF (x y:D):Prop:=match x,y with
 | .int k a,.int d4 b=>match lD k d4 with
  |true=>a=b
  |false=>False
 | .str a,.str b=>a=b
 | .aM a,.aM b=>a=b
 | .dd a,.dd b=>a=b
 | .fn a,.fn b=>a=b
 | .bool a,.bool b=>a=b
 | .lit a,.lit b=>a=b
 | .lit a,.bool b=>a=b
 | .cr u xs,.cr v ys=>match qq u v with
  |some ⟨h⟩=>nn h xs=ys
  |none=>False
 |_,_=>False
def DH (s t:bw):Prop:=match t,s with
 | .any,_=>True
 | .d y,.d x=>HF x y
 | .d (.cr u ys),.dc=>ys=[]
 |t,s=>s=t
def AY:List bw->List bw->Prop
 | [],[]=>True
 |s::l,t::m=>DH s t/\AY l m
 |_,_=>False
def DI (s t:dH):Prop:=match s,t with
 | .one s,.one t=>DH s t
 | .agg l,.agg m=>AY l m
 | .agg _,.one .any=>True
 | .jV u x,.jV v y=>match qq u v with
  |some ⟨h⟩=>HE h x=y
  |none=>False
 | .jV _ _,.one .any=>True
 |_,_=>False
def HG:List dH->List dH->Prop
 | [],[]=>True
 |s::l,t::m=>DI s t/\HG l m
 |_,_=>False
def sr (s t:aN):Prop:=match s,t with
 | .c s,.c t=>DI s t
 | .cm l,.cm m=>HG l m
 | .undef,.undef=>True
 |_,.c (.one .any)=>True
 |_,_=>False
def DJ:List aN->List aN->Prop
 | [],[]=>True
 |s::l,t::m=>sr s t/\DJ l m
 |_,_=>False
def HH:Option Prop->Option Prop->Option Prop
 |none,q=>q
 |some p,none=>some p
 |some p,some q=>some (p/\q)
def tx:Option Prop->Prop
 |none=>True
 |some p=>p
def HI (k:IntKind):List bw->Option (Int×List bw×Option Prop)
 | .d (.int d4 n)::l=>match lD d4 k with
  |true=>some (n,l,none)
  |false=>none
 |_=>none
def HJ:List bw->Option (UInt8×List bw×Option Prop)
 | .d (.int d4 n)::l=>match lD d4 .u8 with
  |true=>some (UInt8.ofNat n.toNat,l,some (0<=n/\n < 256))
  |false=>none
 |_=>none
def HK:List bw->Option (Bool×List bw×Option Prop)
 | .d (.lit b)::l=>some (b,l,none)
 | .d (.bool b)::l=>some (b,l,none)
 |_=>none
def HL:List bw->Option (aD2×List bw×Option Prop)
 | .d (.str s)::l=>some (s,l,none)
 |_=>none
def HM:List bw->Option (Option Nat×List bw×Option Prop)
 | .d (.aM x)::l=>some (x,l,none)
 | .bH (.pointer none)::l=>some (none,l,none)
 |_=>none
def HN:List bw->Option (Option (Nat×Nat×Nat)×List bw×Option Prop)
 | .d (.dd x)::l=>some (x,l,none)
 | .dc::l=>some (none,l,none)
 |_=>none
def AZ:List kc->Option aD3
 | []=>some []
 | .d (.aM (some b))::l=>match AZ l with
  |some r=>some (b::r)
  |none=>none
 |_=>none
def HO:List bw->Option ((Nat×aD3)×List bw×Option Prop)
 | .d (.fn x)::l=>some (x,l,none)
 | .cW f m::l=>match AZ m with
  |some bs=>some ((f,bs),l,none)
  |none=>none
 |_=>none
def HP (u:bz):List bw->Option (List (aa u)×List bw×Option Prop)
 | .dc::l=>some ([],l,none)
 | .d (.cr v xs)::l=>match qq v u with
  |some ⟨h⟩=>some (nn h xs,l,none)
  |none=>none
 |_=>none
def np:(u:bz)->List bw->Option (aa u×List bw×Option Prop)
 | .int k,l=>HI k l
 | .u8,l=>HJ l
 | .bool,l=>HK l
 | .str,l=>HL l
 | .aM,l=>HM l
 | .dd,l=>HN l
 | .fn,l=>HO l
 | .ce u,l=>HP u l
 | .bT u v,l=>match np u l with
  |some (x,l,p)=>match np v l with
   |some (y,l,q)=>some ((x,y),l,HH p q)
   |none=>none
  |none=>none
 | .arr _ _,_=>none
def wA (u:bz):Nat->List bw->Option (List (aa u)×Option Prop)
 |0,[]=>some ([],none)
 |0,_=>none
 |n+1,l=>match np u l with
  |some (x,l,p)=>match wA u n l with
   |some (xs,q)=>some (x::xs,HH p q)
   |none=>none
  |none=>none
def DK (n:Nat) (l:List bw):List bw:=match n with
 |0=>[]
 |n+1=>l++DK n l
def fE (u:bz) (x:aa u) (o:Nat):Nat->List bw
 |0=>[]
 |n+1=>.d (fq u x o)::fE u x (o+1) n
def u3 (k:IntKind) (n:Int):Prop:=match k with
 | .i64=> -9223372036854775808<=n/\n<=9223372036854775807
 | .u8=>0<=n/\n < 256
 | .u16=>0<=n/\n < 65536
 | .u32=>0<=n/\n < 4294967296
 | .u64=>0<=n/\n < 18446744073709551616
 | .i32=> -2147483648<=n/\n<=2147483647
 | .i16=> -32768<=n/\n<=32767
 | .i8=> -128<=n/\n<=127
def iX (P:aD9) (f:aE8):Bool:=match P.funcs[f]? with
 |some fn=> !(fn.name == "runtime.NumGoroutine" ||fn.body.isNone)
 |none=>false
def Fn (P:aD9) (f:aE8) (args:List aN) (aJ:av) (bb:aD3) (res:aN) (aP:av):Prop:=
 iX P f=true/\ ∀(ρ:Nat->bm) (F:Nat->Nat->Prop) (I:Nat->Prop) (w:aD8) (bW:aD7),
  (∀b,I b->b < w.heap.size)->(∀c ch,ae aJ c=some ch->Holds ρ I (F c) w (ρ c) ch)->(∀c ch,ae aJ c=some ch-> ∀b,F c b->b < w.heap.size/\ ¬I b)->
  (∀c ck ch ch' b,ae aJ c=some ch->ae aJ ck=some ch'->c≠ck->F c b-> ¬F ck b)->
  bW.length=args.length->(∀(i:Nat) (v:aN) (x:aE7),args[i]? =some v->bW[i]? =some x->cv ρ I w v x)->
  Calls P f bW.toArray w fun e w'=> ∃(x:aE7) (ρ':Nat->bm) (F':Nat->Nat->Prop),e= .returned x/\cR (fun b=> ∃c ch,ae aJ c=some ch/\F c b) w w'/\(∀c,c∉bb->ρ' c=ρ c)/\
   ∃I':Nat->Prop,cj I w I' w'/\(∀b,I' b->b < w'.heap.size/\(I b\/(∃c ch,ae aJ c=some ch/\F c b)\/w.heap.size<=b))/\
   (∀c ch,ae aP c=some ch->Holds ρ' I' (F' c) w' (ρ' c) ch)/\
   (∀c ch,ae aP c=some ch-> ∀b,F' c b->b < w'.heap.size/\ ¬I' b/\((∃gK cA,ae aJ gK=some cA/\F gK b)\/w.heap.size<=b))/\
   (∀c ck ch ch' b,ae aP c=some ch->ae aP ck=some ch'->c≠ck->F' c b-> ¬F' ck b)/\cv ρ' I' w' res x
def kI (B:av):av->Prop
 | []=>True
 |(c,ch)::l=>ae B c=some ch/\kI B l
def ci:av->aD3
 | []=>[]
 |(c,_)::l=>c::ci l
def HQ:av->List (Nat×Option ba)
 | []=>[]
 |(c,ch)::l=>(c,some ch)::HQ l
def ij:av->av->List (Nat×Option ba)
 | [],m=>HQ m
 |(c,_)::l,m=>(c,none)::ij l m
def l7 (aJ:av) (bb:aD3):av->Bool
 | []=>true
 |(c,_)::l=>((ci aJ).contains c||bb.contains c)&& !(ci l).contains c&&l7 aJ bb l
def rp (ids:aD3) (K:aW) (B:av):aD3->Bool
 | []=>true
 |c::l=>gS ids K B c&& !l.contains c&&rp ids K B l
def wB (P:aD9) (f:aE8) (args:List aN) (ids:aD3) (K:aW) (B:av) (k:aN->fb->Prop):Prop:=
 ∃aJ bb res aP,Fn P f args aJ bb res aP/\kI B aJ/\(rp ids K B bb&&l7 aJ bb aP)=true/\n' res fun r=>k r ⟨ci aJ,bb,ij aJ aP⟩
def nq (k:IntKind) (n:Int) (q:Prop):Prop:=match k with
 | .i64=>(-9223372036854775808<=n/\n<=9223372036854775807)/\q
 | .u8=>(0<=n/\n < 256)/\q
 | .u16=>(0<=n/\n < 65536)/\q
 | .u32=>(0<=n/\n < 4294967296)/\q
 | .u64=>(0<=n/\n < 18446744073709551616)/\q
 | .i32=>(-2147483648<=n/\n<=2147483647)/\q
 | .i16=>(-32768<=n/\n<=32767)/\q
 | .i8=>(-128<=n/\n<=127)/\q
def wC {k:IntKind} {n:Int} {q:Prop} (h:nq k n q):u3 k n/\q:=by cases k <;>exact h
def wD:List aN->Option (List kc)
 | []=>some []
 | .c (.one (.ptr c o))::l=>match wD l with
  |some r=>some (.p c o::r)
  |none=>none
 | .c (.one (.d x))::l=>match wD l with
  |some r=>some (.d x::r)
  |none=>none
 |_=>none
def tz:aD3->List aN
 | []=>[]
 |b::l=>.c (.one (.d (.aM (some b))))::tz l
def nr:List kc->List aN
 | []=>[]
 | .p c o::l=>.c (.one (.ptr c o))::nr l
 | .d x::l=>.c (.one (.d x))::nr l
def DL (op:BinOp) (x y:aN) (k:aN->fb->Prop):Prop:=match x,y with
 | .c (.one (.d (.int i a))),.c (.one (.d (.int j b)))=>match lD i j,op with
  |true,.add=>nq i (a+b) (k (.c (.one (.d (.int i (a+b))))) bI)
  |true,.sub=>nq i (a - b) (k (.c (.one (.d (.int i (a - b))))) bI)
  |true,.mul=>nq i (a*b) (k (.c (.one (.d (.int i (a*b))))) bI)
  |true,.quo=>(0<=a/\0 < b)/\nq i (a/b) (k (.c (.one (.d (.int i (a/b))))) bI)
  |true,.rem=>(0<=a/\0 < b)/\nq i (a % b) (k (.c (.one (.d (.int i (a % b))))) bI)
  |_,.shl=>match lD i .i64 with
   |true=>(0<=a/\0<=b/\b<=64)/\nq i (a*(2 ^b.toNat:Nat)) (k (.c (.one (.d (.int i (a*(2 ^b.toNat:Nat)))))) bI)
   |false=>False
  |_,.shr=>match lD i .i64 with
   |true=>(0<=a/\0<=b/\b<=64)/\k (.c (.one (.d (.int i (a/(2 ^b.toNat:Nat)))))) bI
   |false=>False
  |true,.or=>match lD i .i64 with
   |true=>(0<=a/\a<=9223372036854775807/\0<=b/\b<=9223372036854775807)/\k (.c (.one (.d (.int i ((a.toNat ||| b.toNat:Nat):Int))))) bI
   |false=>False
  |true,.eql=>k (.c (.one (.d (.bool (decide (a=b)))))) bI
  |true,.neq=>k (.c (.one (.d (.bool (!decide (a=b)))))) bI
  |true,.lss=>k (.c (.one (.d (.bool (decide (a < b)))))) bI
  |true,.leq=>k (.c (.one (.d (.bool (decide (a<=b)))))) bI
  |true,.gtr=>k (.c (.one (.d (.bool (decide (b < a)))))) bI
  |true,.geq=>k (.c (.one (.d (.bool (decide (b<=a)))))) bI
  |_,_=>False
 | .c (.one (.d (.str a))),.c (.one (.d (.str b)))=>match op with
  | .add=>a.length+b.length<=4294967296/\k (.c (.one (.d (.str (a++b))))) bI
  | .eql=>k (.c (.one (.d (.bool (decide (a=b)))))) bI
  | .neq=>k (.c (.one (.d (.bool (!decide (a=b)))))) bI
  | .lss=>k (.c (.one (.d (.bool (Op.bytesLess a b))))) bI
  | .leq=>k (.c (.one (.d (.bool (Op.bytesLess a b||decide (a=b)))))) bI
  | .gtr=>k (.c (.one (.d (.bool (!(Op.bytesLess a b||decide (a=b))))))) bI
  | .geq=>k (.c (.one (.d (.bool (!Op.bytesLess a b))))) bI
  |_=>False
 | .c (.one (.ptr _ _)),.c (.one (.bH (.pointer none)))=>match op with
  | .eql=>k (.c (.one (.d (.lit false)))) bI
  | .neq=>k (.c (.one (.d (.lit true)))) bI
  |_=>False
 | .c (.one (.bH (.pointer none))),.c (.one (.bH (.pointer none)))=>match op with
  | .eql=>k (.c (.one (.d (.lit true)))) bI
  | .neq=>k (.c (.one (.d (.lit false)))) bI
  |_=>False
 |_,_=>False
def HR (aQ:df) (T:Nat):Bool:=match aQ.find T with
 |some ti=>match ti.kd with
  | .ptr _=>true
  |_=>false
 |none=>false
def yu (aQ:df) (T:Nat):Bool:=match aQ.find T with
 |some ti=>match ti.kd with
  | .ptr e=>match aQ.find e with
   |some _=>true
   |none=>false
  |_=>false
 |none=>false
def DM (aQ:df) (T:Nat) (x:aE2) (y:aN) (k:Bool->Prop):Prop:=match y with
 | .c (.one (.bH (.pointer none)))=>(∀b,x=some b->k false)/\(x=none->k true)
 | .c (.one (.d (.aM y)))=>match yu aQ T with
  |true=>x=y/\k true
  |false=>False
 |_=>False
def DN (aQ:df) (T:Nat) (op:BinOp) (x y:aN) (k:aN->fb->Prop):Prop:=match x with
 | .c (.one (.d (.aM x)))=>match op with
  | .eql=>DM aQ T x y fun b=>k (.c (.one (.d (.lit b)))) bI
  | .neq=>DM aQ T x y fun b=>k (.c (.one (.d (.lit !b)))) bI
  |_=>False
 |x=>DL op x y k
def DO (aQ:df) (T:Nat):Bool:=match aQ.find T with
 |some ti=>match ti.kd with
  | .bool=>true
  |_=>false
 |none=>false
def DP (op:BinOp) (a:Bool) (y:aN) (k:aN->fb->Prop):Prop:=match op,y with
 | .eql,.c (.one (.d (.bool b)))=>k (.c (.one (.d (.bool (a == b))))) bI
 | .eql,.c (.one (.d (.lit b)))=>k (.c (.one (.d (.bool (a == b))))) bI
 | .neq,.c (.one (.d (.bool b)))=>k (.c (.one (.d (.bool (!(a == b)))))) bI
 | .neq,.c (.one (.d (.lit b)))=>k (.c (.one (.d (.bool (!(a == b)))))) bI
 |_,_=>False
def HS (aQ:df) (T f:Nat):Option (Nat×Nat):=match aQ.find T with
 |some ti=>match ti.kd with
  | .st=>ti.l6[f]?
  |_=>none
 |none=>none
def elemOf (aQ:df) (T:Nat):Option (Nat×b5):=match aQ.find T with
 |some ti=>match ti.kd with
  | .ce e=>match aQ.find e with
   |some te=>some (e,te)
   |none=>none
  |_=>none
 |none=>none
def wE (aQ:df) (T:Nat):Bool:=match aQ.find T with
 |some ti=>match ti.kd with
  | .str=>true
  |_=>false
 |none=>false
def wF (aQ:df) (T:Nat):Option (Nat×Nat):=match aQ.find T with
 |some ti=>match ti.kd with
  | .mp k e=>some (k,e)
  |_=>none
 |none=>none
def HT (aQ:df) (T:Nat) (B:av) (x:aN):Option (Nat×aD3):=match x with
 | .c (.one (.d (.str s)))=>match wE aQ T with
  |true=>some (s.length,[])
  |false=>none
 | .c (.one (.d (.cr _ xs)))=>match elemOf aQ T with
  |some _=>some (xs.length,[])
  |none=>none
 | .c (.one .dc)=>match elemOf aQ T with
  |some _=>some (0,[])
  |none=>none
 | .c (.one (.own c))=>match elemOf aQ T with
  |some _=>match ae B c with
   |some (.row _ _ xs)=>some (xs.length,[c])
   |_=>none
  |none=>none
 | .c (.one (.mp c))=>match wF aQ T with
  |some _=>match ae B c with
   |some (.map _ _ es)=>some (es.length,[c])
   |_=>none
  |none=>none
 |_=>none
def qr (aQ:df) (e:Nat):Bool:=match aQ.find e with
 |some te=>match te.kd,te.zero,te.size,te.bytes with
  | .int .u8,[.d (.int .u8 0)],1,1=>true
  |_,_,_,_=>false
 |none=>false
def HU (aQ:df) (S T:Nat) (x:aN) (B:av) (k:aN->fb->Prop):Prop:=match aQ.find S,aQ.find T with
 |some NZ,some ti=>match NZ.kd,ti.kd,x with
  | .int i,.int j,.c (.one (.d (.int _ n)))=>match lD j .u8,lD i .u8 with
   |true,false=>k (.c (.one (.d (.int j (n % 256))))) bI
   |_,_=>nq j n (k (.c (.one (.d (.int j n)))) bI)
  | .str,.ce e,.c (.one (.d (.str s)))=>match qr aQ e with
   |true=>s.length<=4294967296/\k (.c (.one (.d (.cr .u8 s)))) bI
   |false=>False
  | .ce e,.str,.c (.one (.d (.cr .u8 s)))=>match qr aQ e with
   |true=>k (.c (.one (.d (.str s)))) bI
   |false=>False
  | .ce e,.str,.c (.one .dc)=>match qr aQ e with
   |true=>k (.c (.one (.d (.str [])))) bI
   |false=>False
  | .ce e,.str,.c (.one (.own c))=>match ae B c,qr aQ e with
   |some (.row _ .u8 s),true=>k (.c (.one (.d (.str s)))) ⟨[c],[],[]⟩
   |_,_=>False
  |_,_,_=>False
 |_,_=>False
def yv (n:Nat) (h5 aG:Option aN):Option (Nat×Nat×Prop):=match h5,aG with
 |none,some (.c (.one (.d (.int .i64 j))))=>some (0,j.toNat,0<=j/\j<=n)
 |some (.c (.one (.d (.int .i64 i)))),none=>some (i.toNat,n,0<=i/\i<=n)
 |some (.c (.one (.d (.int .i64 i)))),some (.c (.one (.d (.int .i64 j))))=>some (i.toNat,j.toNat,0<=i/\i<=j/\j<=n)
 |none,none=>some (0,n,True)
 |_,_=>none
def HV (aQ:df) (T:Nat) (x:aN) (h5 aG:Option aN) (k:aN->fb->Prop):Prop:=match x with
 | .c (.one (.d (.str s)))=>match wE aQ T,yv s.length h5 aG with
  |true,some (l,h,p)=>p/\k (.c (.one (.d (.str ((s.take h).drop l))))) bI
  |_,_=>False
 | .c (.one (.d (.cr u xs)))=>match elemOf aQ T,yv xs.length h5 aG with
  |some (_,te),some (l,h,p)=>match Nat.beq te.size (aR u) with
   |true=>p/\k (.c (.one (.d (.cr u ((xs.take h).drop l))))) bI
   |false=>False
  |_,_=>False
 |_=>False
def HW (aQ:df) (T:Nat) (x y:aN) (dst:aE2) (ids:aD3) (K:aW) (B:av) (k:aN->fb->Prop):Prop:=match elemOf aQ T,dst with
 |some (e,te),some d=>match te.u,y with
  |some u,.c (.one (.d (.cr v ys)))=>match qq v u with
   |some ⟨h⟩=>match x with
    | .c (.one .dc)=>ys.length<=4294967296/\gS ids K B d=true/\k (.c (.one (.own d))) ⟨[],[d],[(d,some (.row e u (nn h ys)))]⟩
    | .c (.one (.own c))=>match ae B c with
     |some (.row ca sq xs)=>match Nat.beq ca e,qq sq u with
      |true,some ⟨h'⟩=>xs.length+ys.length<=4294967296/\gS ids K B d=true/\k (.c (.one (.own d))) ⟨[c],[d],[(c,none),(d,some (.row e u (nn h' xs++nn h ys)))]⟩
      |_,_=>False
     |_=>False
    |_=>False
   |none=>False
  |some u,.c (.one (.own cu))=>match x with
   | .c (.one (.own c))=>match ae B c,ae B cu with
    |some (.row ca sq xs),some (.row al v ys)=>match Nat.beq c cu,Nat.beq ca e,qq v u,qq sq u with
     |false,true,some ⟨h⟩,some ⟨h'⟩=>xs.length+ys.length<=4294967296/\gS ids K B d=true/\k (.c (.one (.own d))) ⟨[c,cu],[d],[(c,none),(d,some (.row e u (nn h' xs++nn h ys)))]⟩
     |_,_,_,_=>False
    |_,_=>False
   |_=>False
  |_,_=>False
 |_,_=>False
def HX (aQ:df) (T eL:Nat) (x y:aN) (dst:aE2) (ids:aD3) (K:aW) (B:av) (k:aN->fb->Prop):Prop:=match elemOf aQ T,wE aQ eL,dst with
 |some (e,te),true,some d=>match x,y with
  | .c (.one (.own c)),.c (.one (.d (.str s)))=>match qr aQ e,ae B c with
   |true,some (.row ca .u8 xs)=>match Nat.beq ca e with
    |true=>List.length (α:=UInt8) xs+s.length<=4294967296/\gS ids K B d=true/\k (.c (.one (.own d))) ⟨[c],[d],[(c,none),(d,some (.row e .u8 (List.append (α:=UInt8) xs s)))]⟩
    |false=>False
   |_,_=>False
  |_,_=>False
 |_,_,_=>False
def wG:(aI:bz)->aN->Option (aa aI)
 | .int k,.c (.one (.d (.int d4 n)))=>match lD d4 k with
  |true=>some n
  |false=>none
 | .str,.c (.one (.d (.str s)))=>some s
 |_,_=>none
def yw:(u:bz)->aa u->dH
 | .bT u v,x=>.agg (fE (.bT u v) x 0 (aR (.bT u v)))
 | .arr n u,x=>.agg (fE (.arr n u) x 0 (aR (.arr n u)))
 | .int k,x=>.one (.d (fq (.int k) x 0))
 | .u8,x=>.one (.d (fq .u8 x 0))
 | .bool,x=>.one (.d (fq .bool x 0))
 | .str,x=>.one (.d (fq .str x 0))
 | .aM,x=>.one (.d (fq .aM x 0))
 | .dd,x=>.one (.d (fq .dd x 0))
 | .fn,x=>.one (.d (fq .fn x 0))
 | .ce u,x=>.one (.d (fq (.ce u) x 0))
def DQ:bw->D->Bool
 | .d (.int k n),.int d4 m=>lD k d4&&decide (n=m)
 | .d (.str []),.str []=>true
 | .bH (.pointer none),.aM none=>true
 | .dc,.dd none=>true
 | .d (.lit b),.bool c=>b == c
 | .dc,.cr _ []=>true
 |_,_=>false
def ik:List bw->List bw->Bool
 | [],[]=>true
 |s::l,.d x::m=>DQ s x&&ik l m
 |_,_=>false
def wH (aQ:df) (kt:Nat) (aI:bz):Bool:=match aQ.find kt with
 |some ti=>match ti.kd,aI with
  | .int k,.int d4=>lD k d4
  | .str,.str=>true
  |_,_=>false
 |none=>false
def DR (aQ:df) (et:Nat) (aK:bz):Bool:=match aQ.find et with
 |some ti=>ik ti.zero (fE aK (cM aK) 0 (aR aK))&&(ti.row == !mE aK)&&(mE aK||Nat.ble 2 (aR aK))
 |none=>false
def HY (aQ:df) (T:Nat) (x i:aN) (ok:Bool) (B:av) (k:aN->fb->Prop):Prop:=match x with
 | .c (.one (.mp c))=>match ae B c with
  |some (.map aI aK es)=>match wF aQ T,wG aI i with
   |some (kt,et),some key=>match wH aQ kt aI&&DR aQ et aK,ok with
    |true,true=>wy (yw aK ((bV es key).getD (cM aK))) fun x=>k (.cm [x,.one (.d (.bool (bV es key).isSome))]) ⟨[c],[],[]⟩
    |true,false=>wy (yw aK ((bV es key).getD (cM aK))) fun x=>k (.c x) ⟨[c],[],[]⟩
    |false,_=>False
   |_,_=>False
  |_=>False
 |_=>False
def HZ (u:bz) (x:aN):Option (aa u×Option Prop):=match x with
 | .c (.jV v y)=>match qq v u,mE u with
  |some ⟨h⟩,false=>some (HE h y,none)
  |_,_=>none
 | .c (.one s)=>match mE u,np u [s] with
  |true,some (y,[],p)=>some (y,p)
  |_,_=>none
 | .c (.agg l)=>match mE u,np u l with
  |false,some (y,[],p)=>some (y,p)
  |_,_=>none
 |_=>none
def H0 (aQ:df) (T:Nat) (x i v:aN) (B:av) (k:aN->fb->Prop):Prop:=match x with
 | .c (.one (.mp c))=>match ae B c with
  |some (.map aI aK es)=>match wF aQ T,wG aI i with
   |some (kt,et),some key=>match wH aQ kt aI,HZ aK v with
    |true,some (y,p)=>tx p/\k .undef ⟨[c],[],[(c,some (.map aI aK (dw es key y)))]⟩
    |true,none=>match v,mE aK with
     | .c (.agg l),false=> ∃y:aa aK,(n3 aK y/\l=fE aK y 0 (aR aK))/\k .undef ⟨[c],[],[(c,some (.map aI aK (dw es key y)))]⟩
     |_,_=>False
    |false,_=>False
   |_,_=>False
  |_=>False
 |_=>False
def H1 (aQ:df) (T:Nat) (x i:aN) (B:av) (k:aN->fb->Prop):Prop:=match x with
 | .c (.one (.mp c))=>match ae B c with
  |some (.map aI aK es)=>match wF aQ T,wG aI i with
   |some (kt,et),some key=>match wH aQ kt aI with
    |true=>k (.cm []) ⟨[c],[],[(c,some (.map aI aK (gB es key)))]⟩
    |false=>False
   |_,_=>False
  |_=>False
 |_=>False
def H2 (aQ:df) (T:Nat) (dst:aE2) (ids:aD3) (K:aW) (B:av) (k:aN->fb->Prop):Prop:=match wF aQ T,dst with
 |some (kt,et),some d=>match aQ.find kt,aQ.find et with
  |some N0,some wI=>match N0.u,wI.u with
   |some aI,some aK=>gS ids K B d=true/\k (.c (.one (.mp d))) ⟨[],[d],[(d,some (.map aI aK []))]⟩
   |_,_=>False
  |_,_=>False
 |_,_=>False
def H3 (aQ:df) (T c:Nat) (B:av) (k:aN->fb->Prop):Prop:=match aQ.find T with
 |some ti=>match ti.kd,ti.u with
  | .arr n e,some (.arr m v)=>match Nat.beq n m&&Nat.ble n 1000000&&Nat.blt 0 n,aQ.find e,ae B c with
   |true,some _,some (.cells l)=> ∃ys:List (aa v),(n3 (.arr n v) ys/\l=fE (.arr n v) ys 0 (aR (.arr n v)))/\k (.c (.one (.d (.cr v ys)))) ⟨[c],[],[(c,none)]⟩
   |_,_,_=>False
  |_,_=>False
 |none=>False
def H4 (aQ:df) (T:Nat) (x:aN) (k:aN->fb->Prop):Prop:=match aQ.find T,x with
 |some ti,.c (.one (.d (.cr v xs)))=>match ti.kd with
  | .arr n _=>(0 < n/\n<=List.length xs)/\k (.c (.one (.el (.arr n v) (List.take n xs) 0))) bI
  |_=>False
 |_,_=>False
def bC (P:aD9) (N:Nat) (ids:aD3) (o:Oper) (K:aW) (B:av) (v:aN) (e:fb):Prop:=
 ∀(K':aW) (B':av),(∀x,x∈o.op.operands->a1 K' x=a1 K x)->(∀c,c∈e.iW->ae B' c=ae B c)->(∀c,c∈e.bb->gS ids K' B' c=true)->
  ∀(C:eZ) (a:Act) (w:aD8),eS N ids C K' B' a w->(∀d,o.dst=some d->d < N)-> ∀(fF:Act->World->Prop) (Q:Exit->Act->World->Prop),
   (∀a' w',eS N ids C (l5 o.dst v K') (g0 e.ih B') a' w'->fF a' w')->o.wp P a w fF Q
def laid (xs:aD2) (off n:Nat) (ys:aD2):aD2:=xs.take off++ys.take n++xs.drop (off+(ys.take n).length)
def DS (c off n:Nat) (ys:aD2) (B:av) (k:aN->fb->Prop):Prop:=match ae B c with
 |some (.row e .u8 xs)=>off+n<=xs.length/\k (.c (.one .any)) ⟨[c],[],[(c,some (.row e .u8 (laid xs off n ys)))]⟩
 |_=>False
def H5 (aQ:df) (T:Nat) (x y:aN) (B:av) (k:aN->fb->Prop):Prop:=match elemOf aQ T with
 |some (e,_)=>match qr aQ e,y with
  |true,.c (.one (.d (.cr .u8 ys)))=>match x with
   | .c (.one (.own c))=>match ae B c with
    |some (.row _ .u8 xs)=>DS c 0 (List.length xs) ys B k
    |_=>False
   | .c (.one (.os c s off n))=>match Nat.beq s 1 with
    |true=>DS c off n ys B k
    |false=>False
   |_=>False
  |_,_=>False
 |none=>False
def WR:aN->Bool
 | .c (.one (.own _))=>true
 |_=>false
def A0 (P:aD9) (ids:aD3) (o:Oper) (K:aW) (B:av) (k:aN->fb->Prop):Prop:=
 ∃v e,(∀N,bC P N ids o K B v e)/\rp ids K B e.bb=true/\n' v fun v=>k v e
def H6 (P:aD9) (aQ:df) (ids:aD3) (o:Oper) (K:aW) (B:av) (k:aN->fb->Prop):Prop:=match o.op with
 | .move x=>n' (a1 K x) fun v=>k v bI
 | .assign x=>n' (a1 K x) fun v=>k v bI
 | .pick c x y=>match a1 K c with
  | .c (.one (.d (.lit true)))=>n' (a1 K x) fun v=>k v bI
  | .c (.one (.d (.lit false)))=>n' (a1 K y) fun v=>k v bI
  |_=>False
 | .binOp op T x y _=>match op,HR aQ T with
  | .eql,true=>DN aQ T .eql (a1 K x) (a1 K y) k
  | .neq,true=>DN aQ T .neq (a1 K x) (a1 K y) k
  |op,false=>match a1 K x with
   | .c (.one (.ptr _ _))=>False
   | .c (.one (.bH _))=>False
   | .c (.one (.d (.bool a)))=>match DO aQ T with
    |true=>DP op a (a1 K y) k
    |false=>False
   | .c (.one (.d (.lit a)))=>match DO aQ T with
    |true=>DP op a (a1 K y) k
    |false=>False
   |_=>DL op (a1 K x) (a1 K y) k
  |_,_=>False
 | .unOp .not _ x=>match a1 K x with
  | .c (.one (.d (.lit true)))=>k (.c (.one (.d (.lit false)))) bI
  | .c (.one (.d (.lit false)))=>k (.c (.one (.d (.lit true)))) bI
  | .c (.one (.d (.bool b)))=>k (.c (.one (.d (.bool (!b))))) bI
  |_=>False
 | .extract x i=>match a1 K x with
  | .cm l=>match l[i]? with
   |some v=>k (.c v) bI
   |none=>False
  |_=>False
 | .nilCheck x=>match a1 K x with
  | .c (.one (.ptr c o))=>k (.c (.one (.ptr c o))) bI
  | .c (.one (.el u y o))=>k (.c (.one (.el u y o))) bI
  | .c (.one (.fX c s i o))=>k (.c (.one (.fX c s i o))) bI
  |_=>False
 | .fieldAddr T x f=>match HS aQ T f with
  |some (d,_)=>match a1 K x with
   | .c (.one (.ptr c o))=>k (.c (.one (.ptr c (o+d)))) bI
   | .c (.one (.el u y o))=>k (.c (.one (.el u y (o+d)))) bI
   | .c (.one (.fX c s i o))=>k (.c (.one (.fX c s i (o+d)))) bI
   |_=>False
  |none=>False
 | .load T x=>match aQ.find T with
  |some ti=>match a1 K x with
   | .c (.one (.ptr c o))=>match ae B c with
    |some (.cells l)=>match ti.row with
     |true=>match Nat.ble (o+ti.size) l.length with
      |true=>oN ((l.drop o).take ti.size) fun l=>k (.c (.agg l)) ⟨[c],[],[]⟩
      |false=>False
     |false=>match l[o]? with
      |some s=>yq s fun s=>k (.c (.one s)) ⟨[c],[],[]⟩
      |none=>False
    |_=>False
   | .c (.one (.el u y o))=>match ti.row with
    |true=>match Nat.ble (o+ti.size) (aR u) with
     |true=>oN (fE u y o ti.size) fun l=>k (.c (.agg l)) bI
     |false=>False
    |false=>match Nat.blt o (aR u) with
     |true=>yp (fq u y o) fun x=>k (.c (.one (.d x))) bI
     |false=>False
   | .c (.one (.fX c s i o))=>match ae B c with
    |some (.row _ u xs)=>match Nat.beq s (aR u) with
     |true=> ∃y,fi xs i=some y/\match ti.row with
      |true=>match Nat.ble (o+ti.size) (aR u) with
       |true=>oN (fE u y o ti.size) fun l=>k (.c (.agg l)) ⟨[c],[],[]⟩
       |false=>False
      |false=>match Nat.blt o (aR u) with
       |true=>yp (fq u y o) fun x=>k (.c (.one (.d x))) ⟨[c],[],[]⟩
       |false=>False
     |false=>False
    |_=>False
   |_=>False
  |none=>False
 | .store T x v=>match aQ.find T with
  |some ti=>match a1 K x with
   | .c (.one (.ptr c o))=>match ae B c with
    |some (.cells l)=>match u1 (a1 K v) with
     |some cs=>match Nat.beq cs.length ti.size,Nat.ble (o+cs.length) l.length with
      |true,true=>oN (AX l o cs) fun l=>k .undef ⟨[c],[],[(c,some (.cells l))]⟩
      |_,_=>False
     |none=>False
    |_=>False
   | .c (.one (.fX c s i o))=>match ae B c with
    |some (.row e u xs)=>match Nat.beq (aR u) 1,Nat.beq s 1,Nat.beq o 0,Nat.beq ti.size 1,a1 K v with
     |true,true,true,true,.c (.one oO)=>match np u [oO] with
      |some (y,[],p)=>(tx p/\i < xs.length)/\k .undef ⟨[c],[],[(c,some (.row e u (xs.set i y)))]⟩
      |_=>False
     |_,_,_,_,_=>False
    |_=>False
   |_=>False
  |none=>False
 | .alloc T=>match aQ.find T,o.dst with
  |some ti,some d=>gS ids K B d=true/\k (.c (.one (.ptr d 0))) ⟨[],[d],[(d,some (.cells ti.zero))]⟩
  |_,_=>False
 | .box T x=>match aQ.find T,o.dst,u1 (a1 K x) with
  |some ti,some d,some l=>match Nat.beq l.length ti.size with
   |true=>gS ids K B d=true/\k (.c (.one (.ptr d 0))) ⟨[],[d],[(d,some (.cells l))]⟩
   |false=>False
  |_,_,_=>False
 | .build T bE=>match aQ.find T with
  |some ti=>match ti.kd,u2 K (fun f=>ti.l6[f]?) bE.toList ti.zero with
   | .st,some l=>oN l fun l=>k (.c (.agg l)) bI
   |_,_=>False
  |none=>False
 | .buildSlice T 0 bE=>match bE.toList with
  | []=>match elemOf aQ T,o.dst with
   |some (e,te),some d=>match te.u with
    |some u=>gS ids K B d=true/\k (.c (.one (.own d))) ⟨[],[d],[(d,some (.row e u []))]⟩
    |none=>False
   |_,_=>False
  |_=>False
 | .buildSlice T n bE=>match elemOf aQ T with
  |some (_,te)=>match te.u with
   |some u=>match Nat.ble (n*te.size) 1000,u2 K (fun i=>some (i*te.size,te.size)) bE.toList (DK n te.zero) with
    |true,some l=>match wA u n l with
     |some (xs,none)=>k (.c (.one (.d (.cr u xs)))) bI
     |some (xs,some p)=>p/\k (.c (.one (.d (.cr u xs)))) bI
     |none=>n=1/\ ∃y:aa u,(n3 u y/\l=fE u y 0 (aR u))/\k (.c (.one (.d (.cr u [y])))) bI
    |_,_=>False
   |none=>False
  |none=>False
 | .indexAddr T x i=>match elemOf aQ T,a1 K i with
  |some (_,te),.c (.one (.d (.int .i64 n)))=>match a1 K x with
   | .c (.one (.d (.cr u xs)))=>match Nat.beq te.size (aR u) with
    |true=>0<=n/\ ∃y,fi xs n.toNat=some y/\k (.c (.one (.el u y 0))) bI
    |false=>False
   | .c (.one (.own c))=>match ae B c with
    |some (.row _ u xs)=>match Nat.beq te.size (aR u) with
     |true=>(0<=n/\n < xs.length)/\k (.c (.one (.fX c (aR u) n.toNat 0))) ⟨[c],[],[]⟩
     |false=>False
    |_=>False
   |_=>False
  |_,_=>False
 | .index T x i=>match wE aQ T,a1 K x,a1 K i with
  |true,.c (.one (.d (.str s))),.c (.one (.d (.int .i64 n)))=>0<=n/\ ∃y,fi s n.toNat=some y/\k (.c (.one (.d (.int .u8 (UInt8.toNat y:Int))))) bI
  |_,_,_=>False
 | .slice T x h5 aG none=>match a1 K x with
  | .c (.one (.own c))=>match elemOf aQ T,ae B c with
   |some (_,te),some (.row _ u xs)=>match yv xs.length (h5.map (a1 K)) (aG.map (a1 K)),Nat.beq te.size (aR u) with
    |some (l,h,p),true=>p/\k (.c (.one (.os c (aR u) l (h - l)))) ⟨[c],[],[]⟩
    |_,_=>False
   |_,_=>False
  | .c (.one (.ptr c o))=>match h5,aG,Nat.beq o 0 with
   |none,none,true=>H3 aQ T c B k
   |_,_,_=>False
  |_=>HV aQ T (a1 K x) (h5.map (a1 K)) (aG.map (a1 K)) k
 | .sliceToArrayPointer T x=>H4 aQ T (a1 K x) k
 | .convert S T x=>HU aQ S T (a1 K x) B k
 | .lookup T x i ok=>HY aQ T (a1 K x) (a1 K i) ok B k
 | .mapUpdate T x i v=>H0 aQ T (a1 K x) (a1 K i) (a1 K v) B k
 | .makeMap T none=>H2 aQ T o.dst ids K B k
 | .makeFunc (.func f) fs cs=>match fs.toList,wD (cs.toList.map (a1 K)) with
  | [],some l=>k (.c (.one (.cW f l))) bI
  |_,_=>False
 | .makeSlice T x y=>match elemOf aQ T,a1 K x,a1 K y,o.dst with
  |some (e,te),.c (.one (.d (.int .i64 n))),.c (.one (.d (.int .i64 m))),some d=>match qr aQ e with
   |true=>(n=m/\0<=n/\n<=4294967296)/\gS ids K B d=true/\k (.c (.one (.own d))) ⟨[],[d],[(d,some (.row e .u8 (List.replicate n.toNat (0:UInt8))))]⟩
   |false=>False
  |_,_,_,_=>False
 | .call c=>match c.callee,c.args.toList with
  | .value (.func f),xs=>wB P f (xs.map (a1 K)) ids K B k
  | .value (.tmp t),xs=>match dQ K t with
   | .c (.one (.cW f l))=>wB P f (xs.map (a1 K)++nr l) ids K B k
   | .c (.one (.d (.fn x)))=>wB P x.1 (xs.map (a1 K)++tz x.2) ids K B k
   |_=>False
  | .builtin .len,[x]=>match c.argTypes.toList with
   | [T]=>match HT aQ T B (a1 K x) with
    |some (n,iW)=>k (.c (.one (.d (.int .i64 (n:Int))))) ⟨iW,[],[]⟩
    |none=>False
   |_=>False
  | .builtin .delete,[x,y]=>match c.argTypes.toList with
   | [T,_]=>H1 aQ T (a1 K x) (a1 K y) B k
   |_=>False
  | .builtin .min,[x,y]=>match a1 K x,a1 K y with
   | .c (.one (.d (.int .i64 a))),.c (.one (.d (.int .i64 b)))=>k (.c (.one (.d (.int .i64 (min a b))))) bI
   |_,_=>False
  | .builtin .max,[x,y]=>match a1 K x,a1 K y with
   | .c (.one (.d (.int .i64 a))),.c (.one (.d (.int .i64 b)))=>k (.c (.one (.d (.int .i64 (max a b))))) bI
   |_,_=>False
  | .builtin .copy,[x,y]=>match c.argTypes.toList with
   | [T,eL]=>match WR (a1 K y) with
    |true=>A0 P ids o K B k
    |false=>H5 aQ T (a1 K x) (a1 K y) B k
   |_=>False
  | .builtin .append,[x,y]=>match c.argTypes.toList with
   | [T,eL]=>match Nat.beq T eL with
    |true=>HW aQ T (a1 K x) (a1 K y) o.dst ids K B k
    |false=>HX aQ T eL (a1 K x) (a1 K y) o.dst ids K B k
   |_=>False
  |_,_=>A0 P ids o K B k
 |_=>A0 P ids o K B k
def DT (K:aW) (B:av) (x:aE0):Bool:=match a1 K x with
 | .c (.one (.mp c))=>match ae B c with
  |some (.aA _)=>true
  |_=>false
 |_=>false
def DU:aN->Bool
 | .c (.one (.d (.aM _)))=>true
 | .c (.one (.bH _))=>true
 |_=>false
def N1 (K:aW) (B:av) (x:aE0):Bool:=match a1 K x with
 | .c (.one (.ptr c _))=>match ae B c with
  |some (.val _ _)=>true
  |_=>false
 | .c (.one (.fX c _ _ _))=>match ae B c with
  |some (.val _ _)=>true
  |_=>false
 |_=>false
def WS (K:aW) (B:av) (x:aE0):Bool:=match a1 K x with
 | .c (.one (.fX c _ _ _))=>match ae B c with
  |some (.row _ u _)=> !Nat.beq (aR u) 1
  |_=>false
 |_=>false
def N2:aN->Bool
 | .c (.agg _)=>true
 | .c (.jV _ _)=>true
 |_=>false
def H7 (K:aW) (f:Nat):Bool:=match dQ K (1000000+f) with
 | .undef=>true
 |_=>false
def WT (aQ:df) (o:Oper) (K:aW) (B:av):Bool:=match o.op with
 | .lookup _ x _ _=>DT K B x
 | .mapUpdate _ x _ _=>DT K B x
 | .indexAddr _ x _=>match a1 K x with
  | .c (.one (.ptr _ _))=>true
  |_=>false
 | .nilCheck x=>DU (a1 K x)
 | .fieldAddr _ x _=>DU (a1 K x)
 | .load _ x=>DU (a1 K x)||N1 K B x
 | .store _ x _=>DU (a1 K x)||N1 K B x||WS K B x
 | .binOp op _ x y _=>match op with
  | .and=>true
  |_=>match y with
   | .const .nilFunc=>true
   | .const .nilIface=>true
   |_=>N2 (a1 K x)||(match o.dst with
    |some d=>H7 K (2000000+d)
    |none=>false)
 | .index _ x _=>N2 (a1 K x)
 | .makeSlice T _ _=>match elemOf aQ T with
  |some (e,_)=> !qr aQ e
  |none=>false
 | .build T _=>match aQ.find T with
  |some ti=>match ti.kd with
   | .arr _ _=>true
   |_=>false
  |none=>false
 | .buildSlice _ _ _=>match o.dst with
  |some d=>H7 K (1000000+d)
  |none=>false
 | .call c=>match c.callee,c.args.toList with
  | .builtin .delete,x::_=>DT K B x
  | .builtin .len,x::_=>DT K B x
  | .value (.func f),_=>H7 K f
  | .value (.tmp t),_=>match dQ K t with
   | .c (.one (.bH _))=>true
   |_=>false
  |_,_=>false
 | .makeFunc _ fs _=>match fs.toList with
  | []=>false
  |_=>true
 |_=>false
def DV (P:aD9) (aQ:df) (ids:aD3) (o:Oper) (K:aW) (B:av) (k:aN->fb->Prop):Prop:=match WT aQ o K B with
 |true=>A0 P ids o K B k
 |false=>H6 P aQ ids o K B k
def A1 (all:aE9) (j:Nat):Option Nat:=match all[j]? with
 |some o=>o.dst
 |none=>none
def DW (i:Nat):List Oper->Bool
 | []=>false
 |o::l=>match o.guard with
  |some (j,_)=>match Nat.beq j i with
   |true=>true
   |false=>DW i l
  |none=>DW i l
def tA (all:aE9) (K:aW) (g:Option (Nat×Bool)):Option Bool:=match g with
 |none=>some true
 |some (j,want)=>match A1 all j with
  |none=>none
  |some s=>match dQ K s,want with
   | .c (.one (.d (.lit true))),true=>some true
   | .c (.one (.d (.lit true))),false=>some false
   | .c (.one (.d (.lit false))),true=>some false
   | .c (.one (.d (.lit false))),false=>some true
   | .undef,_=>some false
   |_,_=>none
structure kJ where
 i:Nat
 v:aN
 e:fb
noncomputable def DX (P:aD9) (aQ:df) (ids:aD3) (all:aE9) (o:Oper) (l:aE9) (bl:Nat->aW->av->List kJ->Prop) (i:Nat) (K:aW) (B:av) (gg:List kJ):Prop:=
 match tA all K o.guard with
 |none=>False
 |some false=>match o.dst with
  |some d=>bl (i+1) ((d,.undef)::K) B (⟨i,.undef,bI⟩::gg)
  |none=>bl (i+1) K B (⟨i,.undef,bI⟩::gg)
 |some true=>DV P aQ ids o K B fun v e=>match o.dst with
  |none=>wz e.ih B fun B=>bl (i+1) K B (⟨i,.undef,e⟩::gg)
  |some d=>match DW i l,v with
   |true,.c (.one (.d (.bool b)))=>
    wz e.ih B fun B=>(b=true->bl (i+1) ((d,.c (.one (.d (.lit true))))::K) B (⟨i,.c (.one (.d (.lit true))),e⟩::gg))/\
    (b=false->bl (i+1) ((d,.c (.one (.d (.lit false))))::K) B (⟨i,.c (.one (.d (.lit false))),e⟩::gg))
   |_,v=>wz e.ih B fun B=>bl (i+1) ((d,v)::K) B (⟨i,v,e⟩::gg)
noncomputable def ss (P:aD9) (aQ:df) (ids:aD3) (all:aE9) (i:Nat) (l:aE9) (K:aW) (B:av) (gg:List kJ) (k:aW->av->List kJ->Prop):Prop:=
 List.rec (motive:=fun _=>Nat->aW->av->List kJ->Prop) (fun _ K B gg=>k K B gg) (fun o l bl i K B gg=>DX P aQ ids all o l bl i K B gg) l i K B gg
def N3 {P:aD9} {aQ:df} {ids:aD3} {all:aE9} {i:Nat} {o:Oper} {l:aE9} {K:aW} {B:av} {gg:List kJ} {k:aW->av->List kJ->Prop}:
 ss P aQ ids all i (o::l) K B gg k=DX P aQ ids all o l (fun i K B gg=>ss P aQ ids all i l K B gg k) i K B gg:=rfl
inductive nt where
 |gv
 |ex (id:Nat)
 |ret
def nt.to:nt->Exit
 | .gv=>.normal
 | .ex id=>.exit id
 | .ret=>.ret
abbrev ob (r:aE2):Fence:={fn:=fun _=>True,depth:=none,alive:=false,round:=r}
abbrev eZ.at (C:eZ) (ds:aD3):eZ:={C with ds:=ds}
def su (ids:aD3):Bool:=ids.contains 0
def bB (P:aD9) (N:Nat) (ids:aD3) (c:Code) (K:aW) (B:av) (Q:nt->aW->av->Prop):Prop:=
 ∀r:Option Nat,(su ids=false->r=none)-> ∀(C:eZ) (il:Exit->Act->World->Prop),(∀e K' B' ds,(su ids=true->ds=C.ds)->Q e K' B'-> ∀a w,eS N ids (C.at ds) K' B' a w->il e.to a w)-> ∀a w,eS N ids C K B a w->c.wpIn (ob r) 0 P il a w
def DY (all:aE9) (o:Oper):aD3:=(o.op.operands.toList.filterMap fun
 | .tmp t=>some t
 |_=>none)++(match o.guard with
 |some (j,_)=>(A1 all j).toList
 |none=>[])
def pz (o:Oper):aD3:=(o.after.toList.filter fun e=>Region.binds .any e).map (·.on)
def yx:List Oper->List aD3->List aD3
 | [],acc=>acc
 |o::l,acc=>yx l (acc++[pz o++(pz o).flatMap fun d=>acc.getD d []])
def DZ (e:fb):aD3:=e.ih.map (·.1)
def yy (a b:aD3):Bool:=a.any fun x=>b.contains x
def yz (c:Nat):List (Nat×Option ba)->Bool
 | []=>false
 |(d,none)::l=>Nat.beq d c||yz c l
 |(d,some ch)::l=>Nat.beq d c||ch.has c||yz c l
def named (n:kJ) (c:Nat):Bool:=n.v.has c||yz c n.e.ih
def apart (all:aE9) (o p:Oper) (n m:kJ):Bool:=
 !yy o.dst.toList (DY all p++p.dst.toList)&& !yy p.dst.toList (DY all o)&& !yy (DZ n.e) (m.e.iW++DZ m.e)&& !yy (DZ m.e) n.e.iW&& !n.e.bb.any (named m)&& !m.e.bb.any (named n)
def tB (all:aE9) (an:List aD3):List (Oper×kJ×Nat)->Bool
 | []=>true
 |(o,n,i)::l=>(l.all fun(p,m,j)=>(an.getD j []).contains i&& !m.e.bb.any (named n)||apart all o p n m)&&tB all an l
def u4 (K:aW) (B:av) (dl:aE9) (gg:List kJ):Bool:=
 let es:=gg.reverse
 (dl.zipIdx.all fun(o,i)=>(pz o).all fun d=>Nat.blt d i)&&(es.all fun n=>n.e.bb.all fun c=>tw c K&&kj c B)&&tB dl (yx dl []) ((dl.zip es).zipIdx.map fun((o,n),i)=>(o,n,i))
abbrev A2:=nt->aW->av->Prop
noncomputable def iI (P:aD9) (aQ:df) (N:Nat) (ids:aD3) (stops:aD3) (c:Code):aW->av->A2->Prop:=
 Code.rec (motive:=fun _=>aW->av->A2->Prop)
  (fun K B Q=>Q .gv K B)
  (fun id dl tC K B Q=>match stops.contains id with
   |true=>bB P N ids (.region id dl tC) K B Q
   |false=>match tC with
    |false=>ss P aQ ids dl.toList 0 dl.toList K B [] fun K B _=>Q .gv K B
    |true=>ss P aQ ids dl.toList 0 dl.toList K B [] fun K' B' gg=>u4 K B dl.toList gg=true/\Q .gv K' B')
  (fun _ _ tD A3 K B Q=>tD K B fun e K B=>match e with
   | .gv=>A3 K B Q
   | .ex i=>Q (.ex i) K B
   | .ret=>Q .ret K B)
  (fun c _ _ N4 N5 K B Q=>match a1 K c with
   | .c (.one (.d (.lit true)))=>N4 K B Q
   | .c (.one (.d (.lit false)))=>N5 K B Q
   | .c (.one (.d (.bool b)))=>(b=true->N4 K B Q)/\(b=false->N5 K B Q)
   |_=>False)
  (fun i _ A3 K B Q=>A3 K B fun e K B=>match e with
   | .ex j=>match Nat.beq j i with
    |true=>Q .gv K B
    |false=>Q (.ex j) K B
   | .gv=>Q .gv K B
   | .ret=>Q .ret K B)
  (fun b _ K B Q=>bB P N ids (.loop b) K B Q)
  (fun f bE x b _ _ K B Q=>bB P N ids (.rangeFunc f bE x b) K B Q)
  (fun i K B Q=>Q (.ex i) K B)
  (fun _ A3 K B Q=>A3 K B Q)
  (fun _ K B Q=>Q .gv K B)
  (fun _ _ _ _=>False)
  (fun K B Q=>Q .ret K B)
  (fun _ _ _ _=>False) c
section
variable {P:aD9} {aQ:df} {N:Nat} {ids stops:aD3} {K:aW} {B:av} {Q:A2}
def WU {id:Nat} {dl:Array Oper} {tC:Bool}:iI P aQ N ids stops (.region id dl tC) K B Q=(match stops.contains id with
 |true=>bB P N ids (.region id dl tC) K B Q
 |false=>match tC with
  |false=>ss P aQ ids dl.toList 0 dl.toList K B [] fun K B _=>Q .gv K B
  |true=>ss P aQ ids dl.toList 0 dl.toList K B [] fun K' B' gg=>u4 K B dl.toList gg=true/\Q .gv K' B'):=rfl
def WV {a b:Code}:iI P aQ N ids stops (.seq a b) K B Q=iI P aQ N ids stops a K B fun e K B=>match e with
 | .gv=>iI P aQ N ids stops b K B Q
 | .ex i=>Q (.ex i) K B
 | .ret=>Q .ret K B:=rfl
def WW {c:aE0} {x y:Code}:iI P aQ N ids stops (.cond c x y) K B Q=(match a1 K c with
 | .c (.one (.d (.lit true)))=>iI P aQ N ids stops x K B Q
 | .c (.one (.d (.lit false)))=>iI P aQ N ids stops y K B Q
 | .c (.one (.d (.bool b)))=>(b=true->iI P aQ N ids stops x K B Q)/\(b=false->iI P aQ N ids stops y K B Q)
 |_=>False):=rfl
def WX {i:Nat} {b:Code}:iI P aQ N ids stops (.block i b) K B Q=iI P aQ N ids stops b K B fun e K B=>match e with
 | .ex j=>match Nat.beq j i with
  |true=>Q .gv K B
  |false=>Q (.ex j) K B
 | .gv=>Q .gv K B
 | .ret=>Q .ret K B:=rfl
def WY {b:Code}:iI P aQ N ids stops (.scope b) K B Q=iI P aQ N ids stops b K B Q:=rfl
end
end
section
def sv:Option TypeDesc->NW->Bool
 |some (.int k),.int d4=>lD k d4
 |some .bool,.bool=>true
 |some .string,.str=>true
 |some (.pointer e),.ptr ca=>Nat.beq e ca
 |some (.slice e),.ce ca=>Nat.beq e ca
 |some (.struct _),.st=>true
 |some (.array n e),.arr rq ca=>Nat.beq n rq&&Nat.beq e ca
 |some (.map k e),.mp d4 ca=>Nat.beq k d4&&Nat.beq e ca
 |some (.func _ _ _),.other=>true
 |some (.interface _),.other=>true
 |_,_=>false
def H8:Value->bw->Bool
 | .int k n,.d (.int d4 rq)=>lD k d4&&decide (n=rq)
 | .bool b,.d (.lit eb)=>b == eb
 | .string s,.d (.str l)=>decide (s.data.toList=l)
 | .slice none 0 0,.dc=>true
 | .pointer none,.bH (.pointer none)=>true
 | .map none,.bH (.map none)=>true
 | .nilFunc,.bH .nilFunc=>true
 | .nilIface,.bH .nilIface=>true
 |_,_=>false
def sw:List Value->List bw->Bool
 | [],[]=>true
 |v::aB,s::l=>H8 v s&&sw aB l
 |_,_=>false
def qs (P:aD9):List Field->List (Nat×Nat)->Bool
 | [],[]=>true
 |f::fs,(d,n)::l=>Nat.beq f.offset d&&(match P.info? f.type with
  |some i=>Nat.beq i.size n
  |none=>false)&& !Nat.beq n 0&&qs P fs l
 |_,_=>false
def N6:Value->Bool->Bool
 | .agg _,false=>false
 |_,_=>true
def H9 (P:aD9) (T:Nat) (ti:b5):Bool:=match P.info? T,P.underlying T with
 |some i,some d=>Nat.beq i.size ti.size&&Nat.beq i.bytes ti.bytes&&(d.isRow == ti.row)&&sv (some d) ti.kd&&(match i.zero with
  |some aF=>sw aF.cells.toList ti.zero&&N6 aF d.isRow
  |none=>false)&&(match d with
  | .struct fs=>qs P fs.toList ti.l6
  |_=>true)&&Nat.ble ti.bytes 32768&&(match ti.u with
  |some u=>Nat.beq (aR u) ti.size
  |none=>true)&& !Nat.beq ti.size 0&&Nat.beq ti.zero.length ti.size
 |_,_=>false
def df.all (p:Nat->b5->Bool):df->Bool
 | .leaf=>true
 | .node l k x r=>l.all p&&p k x&&r.all p
def df.H' {p:Nat->b5->Bool}: ∀(t:df),t.all p=true-> ∀T ti,t.find T=some ti->p T ti=true
 | .leaf,_,T,ti,h=>by simp[df.find] at h
 | .node l k x r,ha,T,ti,h=>by
  simp only[df.all,ao8] at ha;unfold df.find at h
  split at h
  .exact df.H' l ha.1.1 T ti h
  .split at h
   .rename_i e;have:=ap8 e;injection h with h
    subst this h;exact ha.1.2
   .exact df.H' r ha.2 T ti h
def d5 (P:aD9) (aQ:df):Prop:= ∀T ti,aQ.find T=some ti->H9 P T ti=true
def d5.of {P:aD9} {aQ:df} (h:aQ.all (H9 P)=true):d5 P aQ:=df.H' aQ h
def nu {i j:IntKind} (h:lD i j=true):i=j:=by cases i <;>cases j <;>first |rfl |(simp[lD] at h)
structure lE (P:aD9) (T:Nat) (ti:b5) (i:aF2) (d:aF3):Prop where
 jW:P.info? T=some i
 nv:P.underlying T=some d
 size:i.size=ti.size
 bytes:i.bytes=ti.bytes
 row:d.isRow=ti.row
 kd:sv (some d) ti.kd=true
 zero: ∃aF,i.zero=some aF/\sw aF.cells.toList ti.zero=true
 l6: ∀fs,d= .struct fs->qs P fs.toList ti.l6=true
 N7:ti.bytes<=32768
 u: ∀u,ti.u=some u->aR u=ti.size
 pos:ti.size≠0
 Ia:ti.zero.length=ti.size
 N8: ∀aF,i.zero=some aF->d.isRow=false->aF.cells= #[aF]
def d5.at_ {P:aD9} {aQ:df} (h:d5 P aQ) {T:Nat} {ti:b5} (hf:aQ.find T=some ti): ∃i d,lE P T ti i d:=by
 have J:=h T ti hf;unfold H9 at J
 split at J
 .rename_i i d aG H;simp only[ao8,aq9,beq_iff_eq] at J;obtain⟨⟨⟨⟨⟨⟨⟨⟨⟨E,G⟩,ag⟩,aS⟩,bG⟩,eH⟩,jF⟩,iw⟩,u5⟩,A4⟩:=J;refine⟨i,d,aG,H,ap8 E,ap8 G,ag,aS,?_,?_,aw2 jF,?_,fun e=>by rw[e] at u5;simp at u5,ap8 A4,?_⟩
  .split at bG
   .rename_i aF aO;exact⟨aF,aO,(ao8 _ _▸bG).1⟩
   .cases bG
  .rintro fs rfl;exact eH
  .intro u a8;rw[a8] at iw;exact ap8 iw
  .intro aF aO aw;rw[aO] at bG;simp only[ao8] at bG;have bG:=bG.2;rw[aw] at bG
   cases aF <;>first |rfl |(simp[N6] at bG)
 .cases J
def lE.ce {P:aD9} {T:Nat} {ti:b5} {i:aF2} {d:aF3} (h:lE P T ti i d) {e:Nat} (Z:ti.kd= .ce e):P.underlying T=some (.slice e):=by
 have:=h.kd;rw[Z] at this;rw[h.nv]
 cases d <;>simp[sv] at this⊢
 exact this
def lE.str {P:aD9} {T:Nat} {ti:b5} {i:aF2} {d:aF3} (h:lE P T ti i d) (Z:ti.kd= .str):P.underlying T=some .string:=by
 have:=h.kd;rw[Z] at this;rw[h.nv]
 cases d <;>simp[sv] at this⊢
def lE.int {P:aD9} {T:Nat} {ti:b5} {i:aF2} {d:aF3} (h:lE P T ti i d) {k:IntKind} (Z:ti.kd= .int k):P.underlying T=some (.int k):=by
 have:=h.kd;rw[Z] at this;rw[h.nv]
 cases d <;>simp[sv] at this⊢
 exact nu this
def lE.ptr {P:aD9} {T:Nat} {ti:b5} {i:aF2} {d:aF3} (h:lE P T ti i d) {e:Nat} (Z:ti.kd= .ptr e):P.underlying T=some (.pointer e):=by
 have:=h.kd;rw[Z] at this;rw[h.nv]
 cases d <;>simp[sv] at this⊢
 exact this
def lE.st {P:aD9} {T:Nat} {ti:b5} {i:aF2} {d:aF3} (h:lE P T ti i d) (Z:ti.kd= .st): ∃fs,P.underlying T=some (.struct fs)/\d= .struct fs:=by
 have:=h.kd;rw[Z] at this;rw[h.nv]
 cases d <;>simp[sv] at this⊢
def N9 {P:aD9}: ∀(fs:List Field) (l:aG0),qs P fs l=true-> ∀(f d n:Nat),l[f]? =some (d,n)-> ∃jG i,fs[f]? =some jG/\jG.offset=d/\P.info? jG.type=some i/\i.size=n/\n≠0
 | [],[],_,f,d,n,h=>by simp at h
 |g::fs,(a,b)::l,ai,0,d,n,h=>by
  simp only[qs,ao8,aq9] at ai;simp only[aq2,ap5,au9] at h;obtain⟨rfl,rfl⟩:=h;obtain⟨⟨⟨E,G⟩,ag⟩,_⟩:=ai
  split at G
  .rename_i i aG;exact⟨g,i,rfl,ap8 E,aG,ap8 G,fun e=>by subst e;simp at ag⟩
  .cases G
 |g::fs,(a,b)::l,ai,f+1,d,n,h=>by
  simp only[qs,ao8] at ai;simpa using N9 fs l ai.2 f d n aA6
 | [],_::_,ai,_,_,_,_=>by simp[qs] at ai
 |_::_,[],ai,_,_,_,_=>by simp[qs] at ai
section
variable {P:aD9} {aQ:df} {N:Nat} {ids:aD3} {o:Oper} {K:aW} {B:av}
def bC.val {v:aN} {iW:aD3} (h: ∀(K':aW) (B':av),(∀x,x∈o.op.operands->a1 K' x=a1 K x)->(∀c,c∈iW->ae B' c=ae B c)->
  ∀(C:eZ) (ρ:Nat->bm) (F:Nat->Nat->Prop) (a:Act) (w:aD8),Mem ids C B' ρ F w->eh K' ρ (bX C B' F w) a w-> ∃x,(execOp a.eval o).run P w= .ok (.value x) w/\cv ρ (bX C B' F w) w v x):
  bC P N ids o K B v ⟨iW,[],[]⟩:=by
 rintro K' B' E G - C a w ⟨hn,H,ρ,F,ah,ar⟩ br fF Q cT;obtain⟨x,hx,ay⟩:=h K' B' E G C ρ F a w ah ar;unfold Oper.wp;rw[hx,Oper.upon_value];exact cT _ _ ⟨kf.trans hn,kg.trans H,ρ,F,ah,ar.kh (fun e U=>by rw[hn];exact br e U) ay⟩
def bC.new {v:aN} {iW:aD3} (h: ∀(K':aW) (B':av),(∀x,x∈o.op.operands->a1 K' x=a1 K x)->(∀c,c∈iW->ae B' c=ae B c)->
  ∀(C:eZ) (ρ:Nat->bm) (F:Nat->Nat->Prop) (a:Act) (w:aD8),Mem ids C B' ρ F w->eh K' ρ (bX C B' F w) a w-> ∃x w',(execOp a.eval o).run P w= .ok (.value x) w'/\Below w.heap.size w w'/\
   (∀I:Nat->Prop,cj (bX C B' F w) w I w'->(∀b,w.heap.size<=b->b < w'.heap.size->I b)->cv ρ I w' v x)):
  bC P N ids o K B v ⟨iW,[],[]⟩:=by
 rintro K' B' E G - C a w ⟨hn,H,ρ,F,ah,ar⟩ br fF Q cT;obtain⟨x,w',hx,O,ay⟩:=h K' B' E G C ρ F a w ah ar;obtain⟨bK,U⟩:=ah.below O;unfold Oper.wp;rw[hx,Oper.upon_value];refine cT _ _ ⟨kf.trans hn,kg.trans H,ρ,F,bK,(ar.mono U fun _ _ _=>rfl).kh (fun e U=>by rw[hn];exact br e U) (ay _ U fun b E G=>⟨G,?_,fun c ch J bj=>?_⟩)⟩
 .exact .inr (.inr (ah.fresh E))
 .have:=(ah.own c ch J b bj).1;omega
section
variable {K':aW} {ρ:Nat->bm} {I:Nat->Prop} {a:Act} {w:aD8} {x:aE0}
def eh.ev (ar:eh K' ρ I a w) {s:aN} (h:a1 K' x=s):cv ρ I w s (a.eval x):=h▸ar.get x
def eh.int (ar:eh K' ρ I a w) {k:IntKind} {n:Int} (h:a1 K' x= .c (.one (.d (.int k n)))):a.eval x= .int k n:=ar.ev h
def eh.lit (ar:eh K' ρ I a w) {b:Bool} (h:a1 K' x= .c (.one (.d (.lit b)))):a.eval x= .bool b:=ar.ev h
def eh.bool (ar:eh K' ρ I a w) {b:Bool} (h:a1 K' x= .c (.one (.d (.bool b)))):a.eval x= .bool b:=ar.ev h
def eh.str (ar:eh K' ρ I a w) {s:aD2} (h:a1 K' x= .c (.one (.d (.str s)))):a.eval x= .string ⟨s.toArray⟩:=ar.ev h
def eh.ptr (ar:eh K' ρ I a w) {c o:Nat} (h:a1 K' x= .c (.one (.ptr c o))):a.eval x= .pointer (some ⟨(ρ c).bh,o,none⟩):=ar.ev h
def eh.fX (ar:eh K' ρ I a w) {c s i o:Nat} (h:a1 K' x= .c (.one (.fX c s i o))):a.eval x= .pointer (some ⟨(ρ c).bh,i*s+o,none⟩):=ar.ev h
def eh.os (ar:eh K' ρ I a w) {c s o n:Nat} (h:a1 K' x= .c (.one (.os c s o n))):a.eval x= .slice (if(ρ c).cap=o then(ρ c).A else(ρ c).A.map (·.add (o*s))) n ((ρ c).cap - o):=ar.ev h
def eh.bH (ar:eh K' ρ I a w) {v:aE7} (h:a1 K' x= .c (.one (.bH v))):a.eval x=v:=ar.ev h
def eh.own (ar:eh K' ρ I a w) {c:Nat} (h:a1 K' x= .c (.one (.own c))):a.eval x=(ρ c).fa:=ar.ev h
def eh.dc (ar:eh K' ρ I a w) (h:a1 K' x= .c (.one .dc)):a.eval x= .slice none 0 0:=ar.ev h
def eh.cr (ar:eh K' ρ I a w) {u:bz} {xs:List (aa u)} (h:a1 K' x= .c (.one (.d (.cr u xs)))):cw I w (.ce u) xs (fun _=>some (a.eval x)):=ar.ev h
end
def yA {k:IntKind} {n:Int} (h:u3 k n):k.wrap n=n:=by cases k <;>simp only[u3] at h <;>simp[IntKind.wrap,IntKind.bits,IntKind.signed] <;>omega
def yB {x y:aE0} {op:BinOp} {T fY:aE4}:x∈(Op.binOp op T x y fY).operands/\y∈(Op.binOp op T x y fY).operands:=by simp[Op.operands]
def toList_mk (l:aD2):(⟨l.toArray⟩:aF5).toList=l:=by rw[ByteArray.toList_eq]
def wJ (l:aD2):(⟨l.toArray⟩:aF5).size=l.length:=by simp[ByteArray.size]
def Ib {op:BinOp} {T fY:aE4} {x y:aE0} {a:Act} {w:aD8} {k:IntKind} {n m r:Int} (ai:o.op= .binOp op T x y fY) (E:a.eval x= .int k n) (G:a.eval y= .int k m)
  (h:(op= .add/\r=n+m)\/(op= .sub/\r=n - m)\/(op= .mul/\r=n*m)) (aw:u3 k r):(execOp a.eval o).run P w= .ok (.value (.int k r)) w:=by
 simp only[execOp,ai,E,G];rcases h with⟨rfl,rfl⟩ |⟨rfl,rfl⟩ |⟨rfl,rfl⟩ <;>simp[eqGuard,go_sem,yA aw,Op.intArith]
def N' {op:BinOp} {T fY:aE4} {x y:aE0} {a:Act} {w:aD8} {k:IntKind} {n m r:Int} (ai:o.op= .binOp op T x y fY) (E:a.eval x= .int k n) (G:a.eval y= .int k m)
  (hn:0<=n) (aD:0 < m) (h:(op= .quo/\r=n/m)\/(op= .rem/\r=n % m)) (aw:u3 k r):(execOp a.eval o).run P w= .ok (.value (.int k r)) w:=by
 have A5:m≠0:=aA5
 simp only[execOp,ai,E,G];rcases h with⟨rfl,rfl⟩ |⟨rfl,rfl⟩
 .have e:n.tdiv m=n/m:=Int.tdiv_eq_ediv_of_nonneg hn;simp[eqGuard,go_sem,Op.intDiv,A5,e,yA aw]
 .have e:n.tmod m=n % m:=Int.tmod_eq_emod_of_nonneg hn;simp[eqGuard,go_sem,Op.intDiv,A5,e]
def yC {op:BinOp} {T fY:aE4} {x y:aE0} {a:Act} {w:aD8} {k:IntKind} {n m:Int} {b:Bool} (ai:o.op= .binOp op T x y fY) (E:a.eval x= .int k n) (G:a.eval y= .int k m)
  (h:(op= .eql/\b=decide (n=m))\/(op= .neq/\b= !decide (n=m))\/(op= .lss/\b=decide (n < m))\/(op= .leq/\b=decide (n<=m))\/(op= .gtr/\b=decide (m < n))\/(op= .geq/\b=decide (m<=n))):
  (execOp a.eval o).run P w= .ok (.value (.bool b)) w:=by
 simp only[execOp,ai,E,G];rcases h with⟨rfl,rfl⟩ |⟨rfl,rfl⟩ |⟨rfl,rfl⟩ |⟨rfl,rfl⟩ |⟨rfl,rfl⟩ |⟨rfl,rfl⟩
 all_goals
  simp[eqGuard,go_sem,Op.intCmp]
 all_goals
  by_cases e:n=m <;>simp[e]
def Oa {op:BinOp} {T fY:aE4} {x y:aE0} {a:Act} {w:aD8} {k cZ:IntKind} {n m r:Int} (ai:o.op= .binOp op T x y fY) (E:a.eval x= .int k n) (G:a.eval y= .int cZ m)
  (hn:0<=n) (aD:0<=m) (O:m.toNat<=k.bits) (h:(op= .shl/\r=n*(2 ^m.toNat:Nat))\/(op= .shr/\r=n/(2 ^m.toNat:Nat))) (aw:op= .shl->u3 k r):(execOp a.eval o).run P w= .ok (.value (.int k r)) w:=by
 have A5: ¬m < 0:=aA5
 have bI:min m.toNat k.bits=m.toNat:=aA5
 simp only[execOp,ai,E,G];rcases h with⟨rfl,rfl⟩ |⟨rfl,rfl⟩
 .have e:=yA (aw rfl);simp only[Int.natCast_pow,Int.cast_ofNat_Int] at e⊢
  have ax:Op.shift .shl k n cZ m=pure (.int k (n*2 ^m.toNat)):=by
   unfold Op.shift;rw[mu A5,bI];simp only;rw[e]
  simp only[eqGuard,binOp,ax];simp[go_sem]
 .have e:n.fdiv (2 ^m.toNat)=n/(2 ^m.toNat):=by rw[Int.fdiv_eq_ediv_of_nonneg];exact Int.pow_nonneg az8
  simp only[Int.natCast_pow,Int.cast_ofNat_Int]
  have ax:Op.shift .shr k n cZ m=pure (.int k (n/2 ^m.toNat)):=by
   unfold Op.shift;rw[mu A5,bI];simp only;rw[e]
  simp only[eqGuard,binOp,ax];simp[go_sem]
def yD {op:BinOp} {T fY:aE4} {x y:aE0} {a:Act} {w:aD8} {s t:aD2} {b:Bool} (ai:o.op= .binOp op T x y fY) (E:a.eval x= .string ⟨s.toArray⟩) (G:a.eval y= .string ⟨t.toArray⟩)
  (h:(op= .eql/\b=decide (s=t))\/(op= .neq/\b= !decide (s=t))\/(op= .lss/\b=Op.bytesLess s t)\/(op= .leq/\b=(Op.bytesLess s t||decide (s=t)))\/(op= .gtr/\b= !(Op.bytesLess s t||decide (s=t)))\/(op= .geq/\b= !Op.bytesLess s t)):
  (execOp a.eval o).run P w= .ok (.value (.bool b)) w:=by
 have e:(s == t)=decide (s=t):=by by_cases e:s=t <;>simp[e]
 simp only[execOp,ai,E,G];rcases h with⟨rfl,rfl⟩ |⟨rfl,rfl⟩ |⟨rfl,rfl⟩ |⟨rfl,rfl⟩ |⟨rfl,rfl⟩ |⟨rfl,rfl⟩ <;>simp[eqGuard,go_sem,Op.stringOp,toList_mk,e]
def WZ (s t:aD2):(⟨s.toArray⟩:aF5)++⟨t.toArray⟩=⟨(s++t).toArray⟩:=by
 have:((⟨s.toArray⟩:aF5)++⟨t.toArray⟩).data=(s++t).toArray:=by
  simp[ByteArray.data_append]
 cases h:(⟨s.toArray⟩:aF5)++⟨t.toArray⟩
 rw[h] at this;simp only at this;rw[this]
def W0 {T fY:aE4} {x y:aE0} {a:Act} {w:aD8} {s t:aD2} (ai:o.op= .binOp .add T x y fY) (E:a.eval x= .string ⟨s.toArray⟩) (G:a.eval y= .string ⟨t.toArray⟩)
  (h:s.length+t.length<=4294967296):(execOp a.eval o).run P w= .ok (.value (.string ⟨(s++t).toArray⟩)) w:=by
 simp only[execOp,ai,E,G]
 have hn: ¬(((s.length+t.length:Nat):Int) >IntKind.i64.max):=by
  have:IntKind.i64.max=9223372036854775807:=by decide
  omega
 simp only[eqGuard,binOp,Op.stringOp,wJ,WZ];rw[mu hn];simp[go_sem]
end
end
section
section
variable {P:aD9} {aQ:df} {N:Nat} {ids:aD3} {o:Oper} {K:aW} {B:av} {k:aN->fb->Prop}
def bC.one {x:aE0} {A6 v:aN} (hx:a1 K x=A6) (aD:x∈o.op.operands)
  (h: ∀(K':aW) (ρ:Nat->bm) (I:Nat->Prop) (a:Act) (w:World),eh K' ρ I a w->a1 K' x=A6-> ∃r,(execOp a.eval o).run P w= .ok (.value r) w/\cv ρ I w v r):bC P N ids o K B v bI:=
 bC.val fun K' B' E G C ρ F a w ah ar=>h K' ρ _ a w ar ((E x aD).trans hx)
def bC.two {x y:aE0} {A6 Ob v:aN} (hx:a1 K x=A6) (aC:a1 K y=Ob) (aD:x∈o.op.operands) (hn:y∈o.op.operands)
  (h: ∀(K':aW) (ρ:Nat->bm) (I:Nat->Prop) (a:Act) (w:World),eh K' ρ I a w->a1 K' x=A6->a1 K' y=Ob-> ∃r,(execOp a.eval o).run P w= .ok (.value r) w/\cv ρ I w v r):bC P N ids o K B v bI:=
 bC.val fun K' B' E G C ρ F a w ah ar=>h K' ρ _ a w ar ((E x aD).trans hx) ((E y hn).trans aC)
def W1 {a b:Int} (E:0<=a) (G:a<=9223372036854775807) (ag:0<=b) (aS:b<=9223372036854775807):
  IntKind.i64.wrap (((BitVec.ofInt 64 a ||| BitVec.ofInt 64 b).toNat:Nat):Int)=((a.toNat ||| b.toNat:Nat):Int):=by
 have af:(BitVec.ofInt 64 a).toNat=a.toNat:=by rw[BitVec.toNat_ofInt];omega
 have al:(BitVec.ofInt 64 b).toNat=b.toNat:=by rw[BitVec.toNat_ofInt];omega
 rw[BitVec.toNat_or,af,al];have h:a.toNat ||| b.toNat < 2 ^63:=Nat.or_lt_two_pow az7 az7;exact yA (by simp only[u3];omega)
def Oc {op:BinOp} {T fY:aE4} {x y:aE0} (ai:o.op= .binOp op T x y fY)
  (ao:(∃e,P.underlying T=some (.pointer e))\/ ∀c d,a1 K x≠ .c (.one (.ptr c d))/\a1 K x≠ .c (.one (.bH (.pointer none))))
  (h:DL op (a1 K x) (a1 K y) k): ∃v,k v bI/\bC P N ids o K B v bI:=by
 have m1:x∈o.op.operands:=by rw[ai];exact yB.1
 have m2:y∈o.op.operands:=by rw[ai];exact yB.2
 unfold DL at h
 split at h
 .rename_i i a j b hx aC
  have two: ∀(v:aN) (ay:i=j-> ∀(K':aW) (ρ:Nat->bm) (I:Nat->Prop) (fj:Act) (w:World),fj.eval x= .int i a->fj.eval y= .int i b-> ∃r,(execOp fj.eval o).run P w= .ok (.value r) w/\cv ρ I w v r),lD i j=true->bC P N ids o K B v bI:=fun v ay gf=>
   bC.two hx aC m1 m2 fun K' ρ I fj w ar af al=>ay (nu gf) K' ρ I fj w (ar.int af) (by rw[nu gf];exact ar.int al)
  have Od: ∀(v:aN) (ay: ∀(K':aW) (ρ:Nat->bm) (I:Nat->Prop) (fj:Act) (w:World),fj.eval x= .int i a->fj.eval y= .int j b-> ∃r,(execOp fj.eval o).run P w= .ok (.value r) w/\cv ρ I w v r),bC P N ids o K B v bI:=fun v ay=>
   bC.two hx aC m1 m2 fun K' ρ I fj w ar af al=>ay K' ρ I fj w (ar.int af) (ar.int al)
  split at h
  .rename_i gf;have h:=wC h;exact⟨_,h.2,two _ (fun _ K' ρ I fj w E G=>⟨_,Ib ai E G (.inl ⟨rfl,rfl⟩) h.1,rfl⟩) gf⟩
  .rename_i gf;have h:=wC h;exact⟨_,h.2,two _ (fun _ K' ρ I fj w E G=>⟨_,Ib ai E G (.inr (.inl ⟨rfl,rfl⟩)) h.1,rfl⟩) gf⟩
  .rename_i gf;have h:=wC h;exact⟨_,h.2,two _ (fun _ K' ρ I fj w E G=>⟨_,Ib ai E G (.inr (.inr ⟨rfl,rfl⟩)) h.1,rfl⟩) gf⟩
  .rename_i gf;have h':=wC h.2;exact⟨_,h'.2,two _ (fun _ K' ρ I fj w E G=>⟨_,N' ai E G h.1.1 h.1.2 (.inl ⟨rfl,rfl⟩) h'.1,rfl⟩) gf⟩
  .rename_i gf;have h':=wC h.2;exact⟨_,h'.2,two _ (fun _ K' ρ I fj w E G=>⟨_,N' ai E G h.1.1 h.1.2 (.inr ⟨rfl,rfl⟩) h'.1,rfl⟩) gf⟩
  .split at h
   .rename_i aG;have:=nu aG;subst this;have h':=wC h.2;exact⟨_,h'.2,Od _ fun K' ρ I fj w E G=>⟨_,Oa ai E G h.1.1 h.1.2.1 (by simp[IntKind.bits];have:=h.1.2.2;omega) (.inl ⟨rfl,rfl⟩) (fun _=>h'.1),rfl⟩⟩
   .exact h.elim
  .split at h
   .rename_i aG;have:=nu aG;subst this;exact⟨_,h.2,Od _ fun K' ρ I fj w E G=>⟨_,Oa ai E G h.1.1 h.1.2.1 (by simp[IntKind.bits];have:=h.1.2.2;omega) (.inr ⟨rfl,rfl⟩) (fun e=>by cases e),rfl⟩⟩
   .exact h.elim
  .rename_i gf
   split at h
   .rename_i aG;have:=nu aG;subst this;refine⟨_,h.2,two _ (fun V K' ρ I fj w E G=>⟨_,?_,rfl⟩) gf⟩;have e:=W1 h.1.1 h.1.2.1 h.1.2.2.1 h.1.2.2.2
    have ax:Op.intBits .or .i64 a b=pure (.int .i64 ((a.toNat ||| b.toNat:Nat):Int)):=by
     exact ap1 (fun aF:Int=>(pure (Value.int .i64 aF):Sem Value)) e
    simp only[execOp,ai,E,G,eqGuard,binOp,ax];simp[go_sem]
   .exact h.elim
  .rename_i gf;exact⟨_,h,two _ (fun _ K' ρ I fj w E G=>⟨_,yC ai E G (.inl ⟨rfl,rfl⟩),rfl⟩) gf⟩
  .rename_i gf;exact⟨_,h,two _ (fun _ K' ρ I fj w E G=>⟨_,yC ai E G (.inr (.inl ⟨rfl,rfl⟩)),rfl⟩) gf⟩
  .rename_i gf;exact⟨_,h,two _ (fun _ K' ρ I fj w E G=>⟨_,yC ai E G (.inr (.inr (.inl ⟨rfl,rfl⟩))),rfl⟩) gf⟩
  .rename_i gf;exact⟨_,h,two _ (fun _ K' ρ I fj w E G=>⟨_,yC ai E G (.inr (.inr (.inr (.inl ⟨rfl,rfl⟩)))),rfl⟩) gf⟩
  .rename_i gf;exact⟨_,h,two _ (fun _ K' ρ I fj w E G=>⟨_,yC ai E G (.inr (.inr (.inr (.inr (.inl ⟨rfl,rfl⟩))))),rfl⟩) gf⟩
  .rename_i gf;exact⟨_,h,two _ (fun _ K' ρ I fj w E G=>⟨_,yC ai E G (.inr (.inr (.inr (.inr (.inr ⟨rfl,rfl⟩))))),rfl⟩) gf⟩
  .exact h.elim
 .rename_i s t hx aC
  have two: ∀(v:aN) (ay: ∀(K':aW) (ρ:Nat->bm) (I:Nat->Prop) (fj:Act) (w:World),fj.eval x= .string ⟨s.toArray⟩->fj.eval y= .string ⟨t.toArray⟩-> ∃r,(execOp fj.eval o).run P w= .ok (.value r) w/\cv ρ I w v r),bC P N ids o K B v bI:=fun v ay=>
   bC.two hx aC m1 m2 fun K' ρ I fj w ar af al=>ay K' ρ I fj w (ar.str af) (ar.str al)
  split at h
  .exact⟨_,h.2,two _ fun K' ρ I fj w E G=>⟨_,W0 ai E G h.1,rfl⟩⟩
  .exact⟨_,h,two _ fun K' ρ I fj w E G=>⟨_,yD ai E G (.inl ⟨rfl,rfl⟩),rfl⟩⟩
  .exact⟨_,h,two _ fun K' ρ I fj w E G=>⟨_,yD ai E G (.inr (.inl ⟨rfl,rfl⟩)),rfl⟩⟩
  .exact⟨_,h,two _ fun K' ρ I fj w E G=>⟨_,yD ai E G (.inr (.inr (.inl ⟨rfl,rfl⟩))),rfl⟩⟩
  .exact⟨_,h,two _ fun K' ρ I fj w E G=>⟨_,yD ai E G (.inr (.inr (.inr (.inl ⟨rfl,rfl⟩)))),rfl⟩⟩
  .exact⟨_,h,two _ fun K' ρ I fj w E G=>⟨_,yD ai E G (.inr (.inr (.inr (.inr (.inl ⟨rfl,rfl⟩))))),rfl⟩⟩
  .exact⟨_,h,two _ fun K' ρ I fj w E G=>⟨_,yD ai E G (.inr (.inr (.inr (.inr (.inr ⟨rfl,rfl⟩))))),rfl⟩⟩
  .exact h.elim
 .rename_i c d hx aC;obtain⟨e,a8⟩:=ao.resolve_right fun h=>(h c d).1 hx
  have q: ∀(p:Addr) (w:aD8),(Op.equalIn (9999+1) T (.pointer (some p)) (.pointer none)).run P w= .ok false w:=fun p w=>by
   unfold Op.equalIn;simp[run_underlying a8]
  split at h
  .refine⟨_,h,bC.two hx aC m1 m2 fun K' ρ I fj w ar af al=>⟨_,?_,rfl⟩⟩;simp only[execOp,ai,ar.ptr af,ar.bH al];simp[eqGuard,binOp,Op.equal,Op.maxDepth,q]
  .refine⟨_,h,bC.two hx aC m1 m2 fun K' ρ I fj w ar af al=>⟨_,?_,rfl⟩⟩;simp only[execOp,ai,ar.ptr af,ar.bH al];simp[eqGuard,binOp,Op.equal,Op.maxDepth,q]
  .exact h.elim
 .rename_i hx aC;obtain⟨e,a8⟩:=ao.resolve_right fun h=>(h 0 0).2 hx
  have q: ∀(w:aD8),(Op.equalIn (9999+1) T (.pointer none) (.pointer none)).run P w= .ok true w:=fun w=>by
   unfold Op.equalIn;simp[run_underlying a8]
  split at h
  .refine⟨_,h,bC.two hx aC m1 m2 fun K' ρ I fj w ar af al=>⟨_,?_,rfl⟩⟩;simp only[execOp,ai,ar.bH af,ar.bH al];simp[eqGuard,binOp,Op.equal,Op.maxDepth,q]
  .refine⟨_,h,bC.two hx aC m1 m2 fun K' ρ I fj w ar af al=>⟨_,?_,rfl⟩⟩;simp only[execOp,ai,ar.bH af,ar.bH al];simp[eqGuard,binOp,Op.equal,Op.maxDepth,q]
  .exact h.elim
 .exact h.elim
def Oe {op:BinOp} {T fY:aE4} {x y:aE0} (ai:o.op= .binOp op T x y fY) (bk: ∀T,yu aQ T=true-> ∃e i,P.underlying T=some (.pointer e)/\P.info? e=some i/\i.size≠0)
  (ao: ∃e,P.underlying T=some (.pointer e)) (h:DN aQ T op (a1 K x) (a1 K y) k): ∃v,k v bI/\bC P N ids o K B v bI:=by
 have m1:x∈o.op.operands:=by rw[ai];exact yB.1
 have m2:y∈o.op.operands:=by rw[ai];exact yB.2
 unfold DN at h
 split at h
 .rename_i p hx;obtain⟨e,a8⟩:=ao
  have key: ∀(b:Bool) (r:aE2),(∀(ρ:Nat->bm) (I:Nat->Prop) (w:aD8) (v:aE7),cv ρ I w (a1 K y) v->v= .pointer (nl r))->(b=true->p=r/\(r=none\/yu aQ T=true))->(b=false->(p=none/\r≠none)\/(p≠none/\r=none))->(op= .eql->bC P N ids o K B (.c (.one (.d (.lit b)))) bI)/\(op= .neq->bC P N ids o K B (.c (.one (.d (.lit !b)))) bI):=by
   intro b r aC E G
   have q: ∀(w:aD8),(Op.equalIn (9999+1) T (.pointer (nl p)) (.pointer (nl r))).run P w= .ok b w:=by
    intro w;unfold Op.equalIn
    cases b with
    |true=>
     obtain⟨rfl,ag⟩:=E rfl
     cases p with
     |none=>simp[run_underlying a8,nl]
     |some p=>
      rcases ag with ag |ag
      .cases ag
      .obtain⟨ca,i,co,cZ,ei⟩:=bk T ag;rw[a8] at co;injection co with co
       injection co with co
       subst co;simp[run_underlying a8,nl,sizeOf,typeInfo,cZ,ei,sameAddr]
    |false=>
     rcases G rfl with⟨rfl,ag⟩ |⟨ag,rfl⟩
     .cases r with
      |none=>exact ap0 rfl ag
      |some r=>simp[run_underlying a8,nl]
     .cases p with
      |none=>exact ap0 rfl ag
      |some p=>simp[run_underlying a8,nl]
   refine⟨fun af=>?_,fun af=>?_⟩
   .subst af;refine bC.val fun K' B' g1 g2 C ρ F a w ah ar=>⟨.bool b,?_,rfl⟩
    have af:a.eval x= .pointer (nl p):=ar.ev ((g1 x m1).trans hx);have al:a.eval y= .pointer (nl r):=aC _ _ _ _ (ar.ev (g1 y m2));simp only[execOp,ai,af,al];simp[eqGuard,binOp,Op.equal,Op.maxDepth,q]
   .subst af;refine bC.val fun K' B' g1 g2 C ρ F a w ah ar=>⟨.bool !b,?_,rfl⟩
    have af:a.eval x= .pointer (nl p):=ar.ev ((g1 x m1).trans hx);have al:a.eval y= .pointer (nl r):=aC _ _ _ _ (ar.ev (g1 y m2));simp only[execOp,ai,af,al];simp[eqGuard,binOp,Op.equal,Op.maxDepth,q]
  have two: ∀(f:Bool->Prop),DM aQ T p (a1 K y) f-> ∃b,f b/\(op= .eql->bC P N ids o K B (.c (.one (.d (.lit b)))) bI)/\(op= .neq->bC P N ids o K B (.c (.one (.d (.lit !b)))) bI):=by
   intro f h;unfold DM at h
   split at h
   .rename_i aC;have d2: ∀(ρ:Nat->bm) (I:Nat->Prop) (w:aD8) (v:aE7),cv ρ I w (a1 K y) v->v= .pointer (nl none):=fun ρ I w v ay=>by rw[aC] at ay;exact ay
    cases ao:p with
    |some b=>exact⟨_,h.1 b ao,by
      have:=key false none d2 (fun e=>by cases e) (fun _=>.inr ⟨by simp[ao],rfl⟩);exact this⟩
    |none=>exact⟨_,h.2 ao,key true none d2 (fun _=>⟨ao,.inl rfl⟩) (fun e=>by cases e)⟩
   .rename_i r aC;have d2: ∀(ρ:Nat->bm) (I:Nat->Prop) (w:aD8) (v:aE7),cv ρ I w (a1 K y) v->v= .pointer (nl r):=fun ρ I w v ay=>by rw[aC] at ay;exact ay
    split at h
    .have a2:yu aQ T=true:=by assumption
     obtain⟨rfl,h⟩:=h;exact⟨_,h,key _ _ d2 (fun _=>⟨rfl,.inr a2⟩) (fun e=>by cases e)⟩
    .exact h.elim
   .exact h.elim
  split at h
  .obtain⟨b,E,G,_⟩:=two _ h;exact⟨_,E,G rfl⟩
  .obtain⟨b,E,_,G⟩:=two _ h;exact⟨_,E,G rfl⟩
  .exact h.elim
 .exact Oc ai (.inl ao) h
def Of {op:BinOp} {T fY:aE4} {x y:aE0} (ai:o.op= .binOp op T x y fY) (a8:P.underlying T=some .bool) {a:Bool} (hx:a1 K x= .c (.one (.d (.bool a)))\/a1 K x= .c (.one (.d (.lit a))))
  (h:DP op a (a1 K y) k): ∃v,k v bI/\bC P N ids o K B v bI:=by
 have m1:x∈o.op.operands:=by rw[ai];exact yB.1
 have m2:y∈o.op.operands:=by rw[ai];exact yB.2
 have q: ∀(a b:Bool) (w:aD8),(Op.equalIn (9999+1) T (.bool a) (.bool b)).run P w= .ok (a == b) w:=fun a b w=>by
  unfold Op.equalIn;simp[run_underlying a8]
 have key: ∀(b:Bool) (r:Bool),(a1 K y= .c (.one (.d (.bool b)))\/a1 K y= .c (.one (.d (.lit b))))->(op= .eql/\r=(a == b))\/(op= .neq/\r= !(a == b))->bC P N ids o K B (.c (.one (.d (.bool r)))) bI:=fun b r aC aw=>
  bC.val fun K' B' E G C ρ F fj w ah ar=>by
   have ex:fj.eval x= .bool a:=by
    have:=ar.get x;rw[E x m1] at this;rcases hx with hx |hx <;>(rw[hx] at this;exact this)
   have Ic:fj.eval y= .bool b:=by
    have:=ar.get y;rw[E y m2] at this;rcases aC with aC |aC <;>(rw[aC] at this;exact this)
   refine⟨.bool r,?_,rfl⟩;rcases aw with⟨rfl,rfl⟩ |⟨rfl,rfl⟩ <;>(simp only[execOp,ai,ex,Ic];simp[eqGuard,binOp,Op.equal,Op.maxDepth,q])
 unfold DP at h
 split at h
 .exact⟨_,h,key _ _ (.inl ‹_›) (.inl ⟨rfl,rfl⟩)⟩
 .exact⟨_,h,key _ _ (.inr ‹_›) (.inl ⟨rfl,rfl⟩)⟩
 .exact⟨_,h,key _ _ (.inl ‹_›) (.inr ⟨rfl,rfl⟩)⟩
 .exact⟨_,h,key _ _ (.inr ‹_›) (.inr ⟨rfl,rfl⟩)⟩
 .exact h.elim
end
end
section
section
variable {ρ:Nat->bm} {I:Nat->Prop} {w:aD8}
def cb.length: ∀(l:List bw) (aB:aD7),cb ρ I w l aB->aB.length=l.length
 | [],_,h=>by rw[show _=[] from h];rfl
 |s::l,_,⟨v,r,e,E,G⟩=>by rw[e,as9,as9,cb.length l r G]
def cb.get: ∀(l:List bw) (aB:aD7),cb ρ I w l aB-> ∀(i:Nat) (s:bw),l[i]? =some s-> ∃v,aB[i]? =some v/\dU ρ I w s v
 | [],_,h,i,s,ax=>by simp at ax
 |t::l,_,⟨v,r,e,E,G⟩,0,s,ax=>by
  simp only[aq2,ap5] at ax;subst ax e;exact⟨v,rfl,E⟩
 |t::l,_,⟨v,r,e,E,G⟩,i+1,s,ax=>by
  subst e;simpa using cb.get l r G i s (by simpa using ax)
def cb.tE: ∀(l m:List bw) (aB us:aD7),cb ρ I w l aB->cb ρ I w m us->cb ρ I w (l++m) (aB++us)
 | [],m,_,us,h,h'=>by rw[show _=[] from h];exact h'
 |s::l,m,_,us,⟨v,r,e,E,G⟩,h'=>⟨v,r++us,by rw[e];rfl,E,cb.tE l m r us G h'⟩
def cb.D0: ∀(n:Nat) (l:List bw) (aB:aD7),cb ρ I w l aB->cb ρ I w (l.take n) (aB.take n)
 |0,_,_,_=>rfl
 |n+1,[],_,h=>by rw[show _=[] from h];rfl
 |n+1,s::l,_,⟨v,r,e,E,G⟩=>⟨v,r.take n,by rw[e];rfl,E,cb.D0 n l r G⟩
def cb.qt: ∀(n:Nat) (l:List bw) (aB:aD7),cb ρ I w l aB->cb ρ I w (l.drop n) (aB.drop n)
 |0,_,_,h=>h
 |n+1,[],_,h=>by rw[show _=[] from h];rfl
 |n+1,s::l,_,⟨v,r,e,E,G⟩=>by rw[e];exact cb.qt n l r G
def cb.splice {l cs:List bw} {aB us:aD7} {o:Nat} (h:cb ρ I w l aB) (h':cb ρ I w cs us):cb ρ I w (AX l o cs) (aB.take o++us++aB.drop (o+us.length)):=by unfold AX;rw[cb.length cs us h'];exact cb.tE _ _ _ _ (cb.tE _ _ _ _ (cb.D0 _ _ _ h) h') (cb.qt _ _ _ h)
def ok_one {s:bw} {v:aE7} (h:s.ok=true) (ay:dU ρ I w s v):v.oneCell'=true:=by
 cases s with
 |d x=>
  cases x with
  |cr u xs=>obtain⟨A,cap,e,_⟩:=ay;injection e with e;rw[e];rfl
  |dd y=>rw[show v=ql y from ay];rcases y with _ |⟨b,n,c⟩ <;>rfl
  |fn y=>rw[show v=l2 y from ay];rfl
  |_=>rw[show v=_ from ay];rfl
 |ptr c o=>rw[show v=_ from ay];rfl
 |own c=>rw[show v=_ from ay];rfl
 |el u x o=>obtain⟨b,p,e,_⟩:=ay;rw[e];rfl
 |fX c s i o=>rw[show v=_ from ay];rfl
 |os c s o n=>rw[show v=_ from ay];rfl
 |mp c=>rw[show v=_ from ay];rfl
 |cW f l=>obtain⟨aB,e,_⟩:=ay;rw[e];rfl
 |dc=>rw[show v=_ from ay];rfl
 |bH u=>
  rw[show v=u from ay]
  cases u <;>first |rfl |(simp[bw.ok] at h)
 |any=>simp[bw.ok] at h
def Og: ∀{l:List bw} {aB:aD7},DG l=true->cb ρ I w l aB-> ∀u∈aB,u.oneCell'=true
 | [],_,_,ay,u,a8=>by rw[show _=[] from ay] at a8;cases a8
 |s::l,_,h,⟨v,r,e,E,G⟩,u,a8=>by
  simp only[DG,ao8] at h;subst e;rcases ap7.1 a8 with rfl |a8
  .exact ok_one h.1 E
  .exact Og h.2 G u a8
def Id {oO:aN} {l:List bw} {v:aE7} (h:u1 oO=some l) (ay:cv ρ I w oO v): ∃aB,v.cells=List.toArray aB/\cb ρ I w l aB/\ ∀u∈aB,u.oneCell'=true:=by
 unfold u1 at h
 split at h
 .split at h
  .rename_i s ax;injection h with h
   subst h;have E:=ok_one ax ay;refine⟨[v],?_,⟨v,[],rfl,ay,rfl⟩,fun u a8=>by simp at a8;rw[a8];exact E⟩
   cases v <;>first |rfl |(simp[Value.oneCell'] at E)
  .cases h
 .split at h
  .rename_i l' ak;injection h with h
   subst h;obtain⟨aB,e,G⟩:=ay;exact⟨aB,by rw[e];rfl,G,Og ak G⟩
  .cases h
 .cases h
end
def dm {α:Type} (f:Nat->α) (c:Nat) (x:α):Nat->α:=fun d=>if d=c then x else f d
def dr {α:Type} (f:Nat->α) (c:Nat) (x:α):dm f c x c=x:=vj rfl
def dt {α:Type} (f:Nat->α) {c d:Nat} (x:α) (h:d≠c):dm f c x d=f d:=mu h
def Oh {c:Nat}: ∀{K:aW},tw c K=true-> ∀s,(dQ K s).has c=false
 | [],_,s=>rfl
 |(t,v)::K,h,s=>by
  simp only[tw,ao8,aq9] at h;rw[ke]
  split
  .exact h.1
  .exact Oh h.2 s
def tF {c:Nat}: ∀{B:av},kj c B=true->ae B c=none/\ ∀d ch,ae B d=some ch->ch.has c=false
 | [],_=>⟨rfl,fun d ch h=>by cases h⟩
 |(t,v)::B,h=>by
  simp only[kj,ao8,aq9] at h;obtain⟨E,G⟩:=tF h.2;have a6:t≠c:=fun e=>by subst e;simp at h
  refine⟨by rw[cn,mu a6];exact E,fun d ch H=>?_⟩;rw[cn] at H
  split at H
  .injection H with H;subst H;exact h.1.2
  .exact G d ch H
def kK {ids:aD3} {K:aW} {B:av} {c:Nat} (h:gS ids K B c=true):(∀s,(dQ K s).has c=false)/\ae B c=none/\(∀d ch,ae B d=some ch->ch.has c=false)/\c∉ids:=by simp only[gS,ao8,aq9] at h;obtain⟨G,ag⟩:=tF h.1.2;exact⟨Oh h.1.1,G,ag,by simpa using h.2⟩
section
variable {P:aD9} {aQ:df} {N:Nat} {ids:aD3} {o:Oper} {K:aW} {B:av} {C:eZ} {ρ:Nat->bm} {F:Nat->Nat->Prop} {w w':aD8}
def Mem.make (h:Mem ids C B ρ F w) {c:Nat} {ch:ba} (hf:gS ids K B c=true) (O:Below w.heap.size w w') (pl:bm) (cd:Nat->Prop) (lf: ∀b,cd b->w.heap.size<=b/\b < w'.heap.size)
  (c9: ∀I,cj (bX C B F w) w I w'->(∀b,I b->b < w'.heap.size/\ ¬cd b)->Holds (dm ρ c pl) I cd w' pl ch):
  Mem ids C ((c,ch)::B) (dm ρ c pl) (dm F c cd) w'/\cj (bX C B F w) w (bX C ((c,ch)::B) (dm F c cd) w') w':=by
 obtain⟨g3,io,f3,l8⟩:=kK hf;refine h.step (fun d=>d=c) (fun d=>d=c) (cR.qh O) ?_ (fun d H=>dt _ _ H) (fun d H=>dt _ _ H) (fun d H e=>l8 (e▸H)) (fun _ h=>h) ?_ ?_ ?_ ?_
 .intro d ch' H a6;rw[cn,mu (fun e=>a6 e.symm)] at H;exact H
 .rintro d ch' H _ e U rfl;rw[f3 d ch' H] at U
  cases U
 .rintro d ch' H rfl U;rw[cn,vj rfl] at H;injection H with H
  subst H;rw[dr,dr];exact c9 _ U fun b c7=>⟨c7.1,fun aV=>c7.2.2 d ch aB7 (by rw[dr];exact aV)⟩
 .rintro d ch' H rfl b aV;rw[dr] at aV;exact⟨(lf b aV).2,.inr (lf b aV).1⟩
 .rintro d cY iJ oc b _ _ rfl rfl a6;exact ap0 rfl a6
def Mem.hz (h:Mem ids C B ρ F w) {c:Nat} {cA ch:ba} (J:ae B c=some cA) (cC:cR (F c) w w')
  (c9: ∀I,cj (bX C B F w) w I w'->Holds ρ I (F c) w' (ρ c) ch):
  Mem ids C ((c,ch)::B) ρ F w'/\cj (bX C B F w) w (bX C ((c,ch)::B) F w') w':=by
 refine h.step (fun d=>d=c) (fun _=>False) (cC.mono fun b _ O=>⟨c,cA,J,rfl,O⟩) ?_ (fun _ _=>rfl) (fun _ _=>rfl) (fun _ _ h=>h) (fun _ h=>h.elim) (fun _ _ _ _ _ _ h=>h) ?_ ?_ ?_
 .intro d ch' H a6;rw[cn,mu (fun e=>a6 e.symm)] at H;exact H
 .rintro d ch' H rfl U;rw[cn,vj rfl] at H;injection H with H
  subst H;exact c9 _ U
 .rintro d ch' H rfl b O;exact⟨aq8 (h.own d cA J b O).1 cC.size,.inl ⟨d,cA,J,rfl,O⟩⟩
 .rintro d cY iJ oc b _ _ rfl rfl a6;exact ap0 rfl a6
def bC.make {c:Nat} {ch:ba} {v:aN} {iW:aD3} (ay: ∀d,v.has d=true->d=c)
  (h: ∀(K':aW) (B':av),(∀x,x∈o.op.operands->a1 K' x=a1 K x)->(∀c,c∈iW->ae B' c=ae B c)-> ∀(C:eZ) (ρ:Nat->bm) (F:Nat->Nat->Prop) (a:Act) (w:aD8),Mem ids C B' ρ F w->eh K' ρ (bX C B' F w) a w->
   (∀s,(dQ K' s).has c=false)-> ∃x w' pl cd,(execOp a.eval o).run P w= .ok (.value x) w'/\Below w.heap.size w w'/\(∀b,cd b->w.heap.size<=b/\b < w'.heap.size)/\
    (∀I,cj (bX C B' F w) w I w'->(∀b,I b->b < w'.heap.size/\ ¬cd b)->Holds (dm ρ c pl) I cd w' pl ch/\cv (dm ρ c pl) I w' v x)):
  bC P N ids o K B v ⟨iW,[c],[(c,some ch)]⟩:=by
 rintro K' B' E G ag C a w ⟨hn,H,ρ,F,ah,ar⟩ br fF Q cT;have hf:=ag c az9;have cC:=kK hf;obtain⟨x,w',pl,cd,hx,O,lf,c9⟩:=h K' B' E G C ρ F a w ah ar cC.1;obtain⟨bK,U⟩:=ah.make hf O pl cd lf fun I af al=>(c9 I af al).1
 unfold Oper.wp;rw[hx,Oper.upon_value];refine cT _ _ ⟨kf.trans hn,kg.trans H,dm ρ c pl,dm F c cd,bK,(ar.mono U fun s d H=>dt _ _ (fun e=>by subst e;rw[cC.1 s] at H;cases H)).kh (fun e U=>by rw[hn];exact br e U) ?_⟩;exact(c9 _ U fun b c7=>⟨c7.1,fun aV=>c7.2.2 c ch aB7 (by rw[dr];exact aV)⟩).2
def bC.hz {c:Nat} {cA ch:ba} (J:ae B c=some cA)
  (h: ∀(K':aW) (B':av),(∀x,x∈o.op.operands->a1 K' x=a1 K x)-> ∀(C:eZ) (ρ:Nat->bm) (F:Nat->Nat->Prop) (a:Act) (w:aD8),Mem ids C B' ρ F w->eh K' ρ (bX C B' F w) a w->ae B' c=some cA-> ∃w',(execOp a.eval o).run P w= .ok .skip w'/\cR (F c) w w'/\
   (∀I,cj (bX C B' F w) w I w'->Holds ρ I (F c) w' (ρ c) ch)):
  bC P N ids o K B .undef ⟨[c],[],[(c,some ch)]⟩:=by
 rintro K' B' E G - C a w ⟨hn,H,ρ,F,ah,ar⟩ br fF Q cT;have c0:ae B' c=some cA:=(G c az9).trans J;obtain⟨w',hx,cC,c9⟩:=h K' B' E C ρ F a w ah ar c0;obtain⟨bK,U⟩:=ah.hz c0 cC c9;unfold Oper.wp;rw[hx,Oper.upon_skip];exact cT _ _ ⟨kf.trans hn,kg.trans H,ρ,F,bK,(ar.mono U fun _ _ _=>rfl).kh (fun e U=>by rw[hn];exact br e U) rfl⟩
def Oi {T:aE4} {p:Addr} {v:aE7} {d:aF3} (a8:P.underlying T=some d) (H:d.isRow=false) (J:w.cell? p=some v):(loadVar T p).run P w= .ok v w:=by cases d <;>first |(simp[TypeDesc.isRow] at H;done) |simp[loadVar,isAgg,run_underlying a8,go_sem,J]
def D1 {ev:Operand->Value} {T:aE4} {x:aE0} {p:Addr} {v:aE7} {d:aF3} (ai:o.op= .load T x) (E:ev x= .pointer (some p)) (a8:P.underlying T=some d) (H:d.isRow=false) (J:w.cell? p=some v):(execOp ev o).run P w= .ok (.value v) w:=by unfold execOp;simp only[ai,E,Instr.loadAt,Instr.sureAddr,as8,at8,ar0,Oi a8 H J]
def D2 {ev:Operand->Value} {T:aE4} {x:aE0} {b p:Nat} {cs:aD7} {d:aF3} {i:aF2} (ai:o.op= .load T x) (E:ev x= .pointer (some ⟨b,p,none⟩)) (a8:P.underlying T=some d) (H:d.isRow=true) (aG:P.info? T=some i) (ak:i.size=cs.length)
  (J: ∀(j:Nat) (u:Value),cs[j]? =some u->w.cell? ⟨b,p+j,none⟩=some u):(execOp ev o).run P w= .ok (.value (.agg cs.toArray)) w:=by
 unfold execOp;simp only[ai,E,Instr.loadAt,Instr.sureAddr,as8,at8,ar0,run_loadVar_mid w b p T cs d J a8 H (by rw[aG,av4,ak])]
def od {b:Nat} {aB:aD7} {T:Nat} (h:w.heap[b]? =some (.cells (List.toArray aB) T (0,0))) {j:Nat} {v:aE7} (V:aB[j]? =some v):w.cell? ⟨b,j,none⟩=some v:=by simp[World.cell?,h,V]
def A7 {ev:Operand->Value} {T:aE4} {x y:aE0} {b p:Nat} {aB us:aD7} {bz:Nat} {i:aF2} (ai:o.op= .store T x y) (E:ev x= .pointer (some ⟨b,p,none⟩)) (aC:(ev y).cells=List.toArray us) (aG:P.info? T=some i) (ak:i.size=us.length)
  (O:w.heap[b]? =some (.cells (List.toArray aB) bz (0,0))) (oP:p+us.length<=aB.length) (tG: ∀u∈us,u.oneCell'=true):
  (execOp ev o).run P w= .ok .skip (w.setRow b (aB.take p++us++aB.drop (p+us.length)).toArray):=by
 have ax:=run_storeCells_at (P:=P) b p bz us 0 (List.toArray aB) w O (by simpa using oP) tG;simp only[aw0,List.toList_toArray] at ax;have aO:(ev y).cells.size=i.size:=by rw[aC,ak];simp
 unfold execOp;simp[ai,E,Instr.storeAt,Instr.sureAddr,storeVar,sizeOf,typeInfo,aG,aC,ak,ax]
end
end
section
section
variable {P:aD9} {aQ:df} {N:Nat} {ids:aD3} {o:Oper} {K:aW} {B:av} {k:aN->fb->Prop}
def cI (P:aD9) (N:Nat) (ids:aD3) (o:Oper) (K:aW) (B:av) (k:aN->fb->Prop):Prop:= ∃v e,k v e/\bC P N ids o K B v e/\ ∀c,c∈e.bb->gS ids K B c=true
def cI.of {v:aN} {iW:aD3} {ih:List (Nat×Option ba)} (h:k v ⟨iW,[],ih⟩) (aq:bC P N ids o K B v ⟨iW,[],ih⟩):cI P N ids o K B k:=⟨_,_,h,aq,fun c J=>by cases J⟩
def cI.bb {v:aN} {iW:aD3} {d:Nat} {ih:List (Nat×Option ba)} (h:k v ⟨iW,[d],ih⟩) (hf:gS ids K B d=true) (aq:bC P N ids o K B v ⟨iW,[d],ih⟩):cI P N ids o K B k:=⟨_,_,h,aq,fun c J=>by simp at J;rw[J];exact hf⟩
def Oj {x:aE0} (ai:o.op= .move x\/o.op= .assign x) (h:n' (a1 K x) fun v=>k v bI):cI P N ids o K B k:=by
 rw[ro] at h;refine cI.of h <| bC.one rfl (by rcases ai with ai |ai <;>rw[ai] <;>simp[Op.operands]) fun K' ρ I a w ar e=>⟨_,?_,ar.ev e⟩
 rcases ai with ai |ai <;>simp[execOp,ai]
def W2 {c x y:aE0} (ai:o.op= .pick c x y) (h:match a1 K c with
  | .c (.one (.d (.lit true)))=>n' (a1 K x) fun v=>k v bI
  | .c (.one (.d (.lit false)))=>n' (a1 K y) fun v=>k v bI
  |_=>False):cI P N ids o K B k:=by
 have m1:c∈o.op.operands:=aA4
 have m2:x∈o.op.operands:=aA4
 have m3:y∈o.op.operands:=aA4
 split at h
 .rename_i J;rw[ro] at h;exact cI.of h <| bC.two J rfl m1 m2 fun K' ρ I a w ar af al=>⟨_,by simp[execOp,ai,ar.lit af,asBool],ar.ev al⟩
 .rename_i J;rw[ro] at h;exact cI.of h <| bC.two J rfl m1 m3 fun K' ρ I a w ar af al=>⟨_,by simp[execOp,ai,ar.lit af,asBool],ar.ev al⟩
 .exact h.elim
def W3 {T:aE4} {x:aE0} (ai:o.op= .unOp .not T x) (h:match a1 K x with
  | .c (.one (.d (.lit true)))=>k (.c (.one (.d (.lit false)))) bI
  | .c (.one (.d (.lit false)))=>k (.c (.one (.d (.lit true)))) bI
  | .c (.one (.d (.bool b)))=>k (.c (.one (.d (.bool (!b))))) bI
  |_=>False):cI P N ids o K B k:=by
 have m1:x∈o.op.operands:=aA4
 split at h
 .rename_i J;exact cI.of h <| bC.one J m1 fun K' ρ I a w ar af=>⟨_,by simp[execOp,ai,ar.lit af,Op.unary],rfl⟩
 .rename_i J;exact cI.of h <| bC.one J m1 fun K' ρ I a w ar af=>⟨_,by simp[execOp,ai,ar.lit af,Op.unary],rfl⟩
 .rename_i b J;exact cI.of h <| bC.one J m1 fun K' ρ I a w ar af=>⟨_,by simp[execOp,ai,ar.bool af,Op.unary],rfl⟩
 .exact h.elim
def iv.get {ρ:Nat->bm} {I:Nat->Prop} {w:aD8}: ∀(l:List dH) (aB:aD7),iv ρ I w l aB-> ∀(i:Nat) (s:dH),l[i]? =some s-> ∃v,aB[i]? =some v/\gu ρ I w s v
 | [],_,h,i,s,ax=>by simp at ax
 |t::l,_,⟨v,r,e,E,G⟩,0,s,ax=>by
  simp only[aq2,ap5] at ax;subst ax e;exact⟨v,rfl,E⟩
 |t::l,_,⟨v,r,e,E,G⟩,i+1,s,ax=>by
  subst e;simpa using iv.get l r G i s (by simpa using ax)
def W4 {x:aE0} {i:Nat} (ai:o.op= .extract x i) (h:match a1 K x with
  | .cm l=>match l[i]? with
   |some v=>k (.c v) bI
   |none=>False
  |_=>False):cI P N ids o K B k:=by
 have m1:x∈o.op.operands:=aA4
 split at h
 .rename_i l ak
  split at h
  .rename_i v ay;refine cI.of h <| bC.one ak m1 fun K' ρ I a w ar af=>?_
   obtain⟨aB,e,G⟩:=ar.ev af;obtain⟨u,a8,ag⟩:=iv.get l aB G i v ay;exact⟨u,by simp[execOp,ai,e,Instr.extract,a8],ag⟩
  .exact h.elim
 .exact h.elim
def W5 {x:aE0} (ai:o.op= .nilCheck x) (h:match a1 K x with
  | .c (.one (.ptr c o))=>k (.c (.one (.ptr c o))) bI
  | .c (.one (.el u y o))=>k (.c (.one (.el u y o))) bI
  | .c (.one (.fX c s i o))=>k (.c (.one (.fX c s i o))) bI
  |_=>False):cI P N ids o K B k:=by
 have m1:x∈o.op.operands:=aA4
 split at h
 .rename_i c p J;exact cI.of h <| bC.one J m1 fun K' ρ I a w ar af=>⟨_,by simp[execOp,ai,ar.ptr af],rfl⟩
 .rename_i u y p J;refine cI.of h <| bC.one J m1 fun K' ρ I a w ar af=>⟨a.eval x,?_,ar.ev af⟩
  obtain⟨b,q,e,_⟩:=ar.ev af;simp[execOp,ai,e]
 .rename_i c s i p J;exact cI.of h <| bC.one J m1 fun K' ρ I a w ar af=>⟨_,by simp[execOp,ai,ar.fX af],rfl⟩
 .exact h.elim
def D3 {ev:Operand->Value} {T:aE4} {x:aE0} {f g off d:Nat} {w:aD8} {fs:Array Field} {jG:Field} {i:aF2} (E:ev x= .pointer (some ⟨g,off,none⟩)) (ai:o.op= .fieldAddr T x f)
  (b4:P.underlying T=some (.struct fs)) (tH:fs[f]? =some jG) (H:jG.offset=d) (aG:P.info? jG.type=some i) (cL:i.size≠0):(execOp ev o).run P w= .ok (.value (.pointer (some ⟨g,off+d,none⟩))) w:=by
 subst H;simp[execOp,ai,E,Instr.fieldAt,run_underlying b4,tH,Instr.sureAddr,fieldPlace,sizeOf,typeInfo,aG,cL,qi]
def W6 (bk:d5 P aQ) {T:aE4} {x:aE0} {f:Nat} (ai:o.op= .fieldAddr T x f) (h:match HS aQ T f with
  |some (d,_)=>match a1 K x with
   | .c (.one (.ptr c o))=>k (.c (.one (.ptr c (o+d)))) bI
   | .c (.one (.el u y o))=>k (.c (.one (.el u y (o+d)))) bI
   | .c (.one (.fX c s i o))=>k (.c (.one (.fX c s i (o+d)))) bI
   |_=>False
  |none=>False):cI P N ids o K B k:=by
 have m1:x∈o.op.operands:=aA4
 split at h
 .rename_i d n H
  have⟨fs,jG,i,b4,tH,Ie,aG,aO⟩: ∃fs jG i,P.underlying T=some (.struct fs)/\fs[f]? =some jG/\jG.offset=d/\P.info? jG.type=some i/\i.size≠0:=by
   unfold HS at H
   split at H
   .rename_i ti gL
    split at H
    .rename_i Z;obtain⟨i,sx,bv⟩:=bk.at_ gL;obtain⟨fs,a8,rfl⟩:=bv.st Z;obtain⟨jG,Ok,E,G,ag,aS,bG⟩:=N9 _ _ (bv.l6 fs rfl) f d n H;exact⟨fs,jG,Ok,a8,by simpa using E,G,ag,by rw[aS];exact bG⟩
    .cases H
   .cases H
  split at h
  .rename_i c p J;exact cI.of h <| bC.one J m1 fun K' ρ I a w ar af=>⟨_,D3 (ar.ptr af) ai b4 tH Ie aG aO,rfl⟩
  .rename_i u y p J;refine cI.of h <| bC.one J m1 fun K' ρ I a w ar af=>?_
   obtain⟨b,q,e,G⟩:=ar.ev af;exact⟨_,D3 e ai b4 tH Ie aG aO,b,q,by rw[Nat.add_assoc],G⟩
  .rename_i c s j p J;exact cI.of h <| bC.one J m1 fun K' ρ I a w ar af=>⟨_,D3 (ar.fX af) ai b4 tH Ie aG aO,by simp only[cv,gu,dU];rw[Nat.add_assoc]⟩
  .exact h.elim
 .exact h.elim
def D4 {ρ:Nat->bm} {I:Nat->Prop} {w:aD8} {u:bz} {y:aa u} {c:Nat->Option Value} (aC:cw I w u y c): ∀(n p:Nat),p+n<=aR u-> ∃aB,cb ρ I w (fE u y p n) aB/\ ∀(j:Nat) (v:aE7),aB[j]? =some v->c (p+j)=some v
 |0,p,_=>⟨[],rfl,fun j v h=>by simp at h⟩
 |n+1,p,h=>by
  obtain⟨v,E,G⟩:=cw.cell u y c p aC az7;obtain⟨aB,ag,aS⟩:=D4 aC n (p+1) az7;refine⟨v::aB,⟨v,aB,rfl,G,ag⟩,fun j dp V=>?_⟩
  match j with
  |0=>simp only[aq2,ap5] at V;subst V;exact E
  |j+1=>rw[show p+(j+1)=p+1+j by omega];exact aS j dp aB6
def sy (u:bz) (y:aa u): ∀(n p:Nat),(fE u y p n).length=n
 |0,_=>rfl
 |n+1,p=>by simp[fE,sy u y n]
def yE (u:bz) (y:aa u): ∀(n p i:Nat),i < n->(fE u y p n)[i]? =some (.d (fq u y (p+i)))
 |0,p,i,h=>by omega
 |n+1,p,0,h=>rfl
 |n+1,p,i+1,h=>by
  have:=yE u y n (p+1) i az7;rw[show p+1+i=p+(i+1) by omega] at this;simpa[fE] using this
def A8 {ρ:Nat->bm} {I:Nat->Prop} {w:aD8} {u:bz} {y:aa u} (hw:n3 u y) {aB:aD7} (h:cb ρ I w (fE u y 0 (aR u)) aB):cw I w u y (fun j=>aB[j]?):=
 cw.mk u y _ hw fun j V=>by
  have aV:=yE u y (aR u) 0 j V;rw[at5] at aV;obtain⟨v,af,al⟩:=cb.get _ _ h j _ aV;exact⟨v,af,al⟩
def D5 {T:aE4} {x:aE0} (ai:o.op= .load T x) {ti:b5} {i:aF2} {d:aF3} (bv:lE P T ti i d) {u:bz} {y:aa u} {p:Nat} {a:Act} {w:aD8} {I:Nat->Prop} {ρ:Nat->bm} {b q:Nat}
  (U:a.eval x= .pointer (some ⟨b,q+p,none⟩)) (aC:cw I w u y (fun j=>w.cell? ⟨b,q+j,none⟩)):
  (ti.row=true->p+ti.size<=aR u-> ∃r,(execOp a.eval o).run P w= .ok (.value r) w/\cv ρ I w (.c (.agg (fE u y p ti.size))) r)/\
  (ti.row=false->p < aR u-> ∃r,(execOp a.eval o).run P w= .ok (.value r) w/\cv ρ I w (.c (.one (.d (fq u y p)))) r):=by
 constructor
 .intro aw hh;obtain⟨aB,E,G⟩:=D4 (ρ:=ρ) aC ti.size p hh;refine⟨_,D2 (cs:=aB) ai U bv.nv (bv.row.trans aw) bv.jW (by rw[cb.length _ _ E,sy];exact bv.size) (fun j v V=>?_),aB,rfl,E⟩;rw[Nat.add_assoc];exact G j v V
 .intro aw br;obtain⟨v,E,G⟩:=cw.cell u y _ p aC br;exact⟨v,D1 ai U bv.nv (bv.row.trans aw) E,G⟩
def W7 {ρ:Nat->bm} {I F:Nat->Prop} {w:aD8} {p:bm} {e:aE4} {u:bz} {xs:List (aa u)} (h:Holds ρ I F w p (.row e u xs)) {i:Nat} {y:aa u} (aC:fi xs i=some y):
  cw I w u y (fun j=>w.cell? ⟨p.bh,i*aR u+j,none⟩):=by
 obtain⟨E,G,cs,ag,aS⟩:=h;refine cw.mono (cj.refl _ _) u y _ _ (fun j v V=>?_) (aS i y aC);have V:cs[i*aR u+j]? =some v:=V;have hx:=AT aC;have A9:=ag;obtain⟨ak,ag⟩:=ag;rcases ag with⟨_,au⟩ |⟨g,cap,fW,ay,_,aV,_,_,_,cq⟩
 .omega
 .have O:p.fa.ownBlock=some g:=by rw[ay];rfl
  rw[<-G g O];have:=A9.cells O (i*aR u+j) v V
  rwa[qi,at5] at this
def W8 (bk:d5 P aQ) {T:aE4} {x:aE0} (ai:o.op= .load T x) (h:match aQ.find T with
  |some ti=>match a1 K x with
   | .c (.one (.ptr c o))=>match ae B c with
    |some (.cells l)=>match ti.row with
     |true=>match Nat.ble (o+ti.size) l.length with
      |true=>oN ((l.drop o).take ti.size) fun l=>k (.c (.agg l)) ⟨[c],[],[]⟩
      |false=>False
     |false=>match l[o]? with
      |some s=>yq s fun s=>k (.c (.one s)) ⟨[c],[],[]⟩
      |none=>False
    |_=>False
   | .c (.one (.el u y o))=>match ti.row with
    |true=>match Nat.ble (o+ti.size) (aR u) with
     |true=>oN (fE u y o ti.size) fun l=>k (.c (.agg l)) bI
     |false=>False
    |false=>match Nat.blt o (aR u) with
     |true=>yp (fq u y o) fun x=>k (.c (.one (.d x))) bI
     |false=>False
   | .c (.one (.fX c s i o))=>match ae B c with
    |some (.row _ u xs)=>match Nat.beq s (aR u) with
     |true=> ∃y,fi xs i=some y/\match ti.row with
      |true=>match Nat.ble (o+ti.size) (aR u) with
       |true=>oN (fE u y o ti.size) fun l=>k (.c (.agg l)) ⟨[c],[],[]⟩
       |false=>False
      |false=>match Nat.blt o (aR u) with
       |true=>yp (fq u y o) fun x=>k (.c (.one (.d x))) ⟨[c],[],[]⟩
       |false=>False
     |false=>False
    |_=>False
   |_=>False
  |none=>False):cI P N ids o K B k:=by
 have m1:x∈o.op.operands:=aA4
 split at h
 .rename_i ti gL;obtain⟨i,d,bv⟩:=bk.at_ gL
  split at h
  .rename_i c p J
   split at h
   .rename_i l ak
    have key: ∀(K':aW) (B':av),(∀x,x∈o.op.operands->a1 K' x=a1 K x)->(∀d,d∈ [c]->ae B' d=ae B d)-> ∀(C:eZ) (ρ:Nat->bm) (F:Nat->Nat->Prop) (a:Act) (w:aD8),Mem ids C B' ρ F w->eh K' ρ (bX C B' F w) a w->
      a.eval x= .pointer (some ⟨(ρ c).bh,p,none⟩)/\ ∃aB T,w.heap[(ρ c).bh]? =some (.cells (List.toArray aB) T (0,0))/\cb ρ (bX C B' F w) w l aB:=fun K' B' E G C ρ F a w ah ar=>by
     have bf:=ah.holds c _ ((G c az9).trans ak);exact⟨ar.ptr ((E x m1).trans J),bf.2⟩
    split at h
    .rename_i aw
     split at h
     .rename_i hh;have hh:=aw2 hh;rw[yr] at h;refine cI.of h <| bC.val fun K' B' E G C ρ F a w ah ar=>?_
      obtain⟨af,aB,eL,O,H⟩:=key K' B' E G C ρ F a w ah ar;have kL:=cb.D0 ti.size _ _ (cb.qt p _ _ H);refine⟨_,D2 (cs:=(aB.drop p).take ti.size) ai af bv.nv (bv.row.trans aw) bv.jW ?_ (fun j u V=>?_),_,rfl,kL⟩
      .rw[cb.length _ _ kL,aq0,au8,bv.size];omega
      .rw[au4] at V
       split at V
       .rw[ay2] at V;exact od O V
       .cases V
     .exact h.elim
    .rename_i aw
     split at h
     .rename_i s ax;rw[HB] at h;refine cI.of h <| bC.val fun K' B' E G C ρ F a w ah ar=>?_
      obtain⟨af,aB,eL,O,H⟩:=key K' B' E G C ρ F a w ah ar;obtain⟨v,ay,kL⟩:=cb.get _ _ H p s ax;exact⟨v,D1 ai af bv.nv (bv.row.trans aw) (od O ay),kL⟩
     .exact h.elim
   .exact h.elim
  .rename_i u y p J
   split at h
   .rename_i aw
    split at h
    .rename_i hh;rw[yr] at h;refine cI.of h <| bC.one J m1 fun K' ρ I a w ar af=>?_
     obtain⟨b,q,e,_,aC⟩:=ar.ev af;exact(D5 ai bv e aC).1 aw (aw2 hh)
    .exact h.elim
   .rename_i aw
    split at h
    .rename_i br;rw[HA] at h;refine cI.of h <| bC.one J m1 fun K' ρ I a w ar af=>?_
     obtain⟨b,q,e,_,aC⟩:=ar.ev af;exact(D5 ai bv e aC).2 aw (by simpa[Nat.blt_eq] using br)
    .exact h.elim
  .rename_i c s j p J
   split at h
   .rename_i e u xs ak
    split at h
    .rename_i ax;have ax:=ap8 ax;subst ax;obtain⟨y,aC,h⟩:=h
     have key: ∀(K':aW) (B':av),(∀x,x∈o.op.operands->a1 K' x=a1 K x)->(∀d,d∈ [c]->ae B' d=ae B d)-> ∀(C:eZ) (ρ:Nat->bm) (F:Nat->Nat->Prop) (a:Act) (w:aD8),Mem ids C B' ρ F w->eh K' ρ (bX C B' F w) a w->
       a.eval x= .pointer (some ⟨(ρ c).bh,j*aR u+p,none⟩)/\cw (bX C B' F w) w u y (fun i=>w.cell? ⟨(ρ c).bh,j*aR u+i,none⟩):=fun K' B' E G C ρ F a w ah ar=>
      ⟨ar.fX ((E x m1).trans J),W7 (ah.holds c _ ((G c az9).trans ak)) aC⟩
     split at h
     .rename_i aw
      split at h
      .rename_i hh;rw[yr] at h;refine cI.of h <| bC.val fun K' B' E G C ρ F a w ah ar=>?_
       obtain⟨af,al⟩:=key K' B' E G C ρ F a w ah ar;exact(D5 ai bv af al).1 aw (aw2 hh)
      .exact h.elim
     .rename_i aw
      split at h
      .rename_i br;rw[HA] at h;refine cI.of h <| bC.val fun K' B' E G C ρ F a w ah ar=>?_
       obtain⟨af,al⟩:=key K' B' E G C ρ F a w ah ar;exact(D5 ai bv af al).2 aw (by simpa[Nat.blt_eq] using br)
      .exact h.elim
    .exact h.elim
   .exact h.elim
  .exact h.elim
 .exact h.elim
end
end
section
section
variable {ρ:Nat->bm} {I:Nat->Prop} {w:aD8}
def cw.wf: ∀(u:bz) (x:aa u) (c:Nat->Option Value),cw I w u x c->n3 u x:=by
 intro u
 induction u with
 |bT u v n4 n9=>exact fun x c h=>⟨n4 _ _ h.1,n9 _ _ h.2⟩
 |arr n u bl=>
  refine fun x c h=>⟨h.1,fun y aC=>?_⟩
  obtain⟨i,aG⟩:=List.getElem?_of_mem (α:=aa u) aC;exact bl _ _ (h.2 i y aG)
 |_=>exact fun x c h=>trivial
def cw.one (u:bz) (x:aa u) (c:Nat->Option Value) (h:cw I w u x c) (j:Nat) (V:j < aR u): ∃v,c j=some v/\v.oneCell'=true:=by obtain⟨v,E,G⟩:=cw.cell u x c j h V;exact⟨v,E,ok_one (ρ:=fun _=>⟨0,none,0,0⟩) (s:=.d (fq u x j)) rfl G⟩
def Ol {i j n s:Nat} (aG:i < n) (V:j < s):i*s+j < n*s:=by have:=av5 s aG;rw[aw7] at this;omega
def Om {u:bz} {ys:List (aa u)} {v:aE7} (h:cw I w (.ce u) ys (fun _=>some v)) (aZ: ∀b,I b->b < w.heap.size):
  ∃gz,hy I w (aR u) v ys.length gz/\he I w u ys gz/\ ∀x∈gz,x.oneCell'=true:=by
 obtain⟨A,cap,e,E,G,ag⟩:=h;injection e with e
 subst e;rcases ay1 ys.length with au |au
 .have aC:ys=[]:=at4 au;subst aC;exact⟨[],⟨az9,A,cap,rfl,E,G,fun h=>ap0 h az9⟩,fun i x hx=>by simp at hx,fun x hx=>by cases hx⟩
 .obtain⟨b,o,rfl,O,hx⟩:=ag au
  have J: ∀i (aG:i < ys.length) j,j < aR u-> ∃v,w.cell? ⟨b,o+(i*aR u+j),none⟩=some v/\v.oneCell'=true:=fun i aG j V=>
   cw.one u _ _ (hx i ys[i] (by simp[fi,aG])) j V
  have hn: ∀j,j < ys.length*aR u-> ∃v,w.cell? ⟨b,o+j,none⟩=some v/\v.oneCell'=true:=fun j V=>by
   obtain⟨af,al,bt⟩:=Hw V;have:=J _ af _ al
   rwa[bt] at this
  have l9: ∀j,j < ys.length*aR u->((List.range (ys.length*aR u)).map fun j=>(w.cell? ⟨b,o+j,none⟩).getD undef)[j]? =w.cell? ⟨b,o+j,none⟩:=fun j V=>by
   obtain⟨v,ay,_⟩:=hn j V;rw[ar1,List.getElem?_range V];simp[ay]
  refine⟨(List.range (ys.length*aR u)).map fun j=>(w.cell? ⟨b,o+j,none⟩).getD undef,⟨az9,some ⟨b,o,none⟩,cap,rfl,E,G,fun _=>⟨b,o,rfl,O,aZ b O,fun j x V=>?_⟩⟩,fun i x dF=>?_,fun x dF=>?_⟩
  .have kk:=(ap6.1 V).1;simp only[aq3,List.length_range] at kk
   rwa[l9 j kk] at V
  .have aG:=(ap6.1 dF).1;have H:=hx i x dF;refine cw.mk u x _ (cw.wf u x _ H) fun j V=>?_
   obtain⟨v,ay,aS⟩:=cw.cell u x _ j H V;exact⟨v,by rw[l9 _ (Ol aG V)];exact ay,aS⟩
  .obtain⟨j,V,rfl⟩:=ar6.1 dF;obtain⟨v,ay,aS⟩:=hn j (List.mem_range.1 V);simpa[ay] using aS
def he.tE {u:bz} {xs ys:List (aa u)} {cs ds:aD7} (h:he I w u xs cs) (h':he I w u ys ds) (ak:cs.length=xs.length*aR u):he I w u (xs++ys) (cs++ds):=fun i x hx=>by
 by_cases aG:i < xs.length
 .rw[as0 aG] at hx;have H:=h i x hx;refine cw.mk u x _ (cw.wf u x _ H) fun j V=>?_
  obtain⟨v,ay,aS⟩:=cw.cell u x _ j H V;exact⟨v,by rw[as0 (by rw[ak];exact Ol aG V)];exact ay,aS⟩
 .rw[as3 az7] at hx;have H:=h' _ x hx;refine cw.mono (cj.refl _ _) u x _ _ (fun j v V=>?_) H;have e:i*aR u=xs.length*aR u+(i - xs.length)*aR u:=by rw[<-Nat.add_mul];congr 1;omega
  rw[as3 (by rw[ak,e];omega),<-V,ak,e]
  congr 1
  omega
def he.nil (u:bz):he I w u [] []:=fun i x hx=>by simp at hx
def Ba {ρ:Nat->bm} {F:Nat->Prop} {p:bm} {e:aE4} {u:bz} {xs:List (aa u)} (h:Holds ρ I F w p (.row e u xs)) {I':Nat->Prop} (aZ: ∀b,I b->I' b) (bj: ∀b,F b->I' b):cw I' w (.ce u) xs (fun _=>some p.fa):=by
 obtain⟨E,G,cs,ag,aS⟩:=h;have A9:=ag;rcases ag.2 with⟨ay,au⟩ |⟨g,cap,fW,ay,_,aV,ak,aD,_,_⟩
 .exact⟨none,0,by rw[ay,au],az7,az8,fun h=>ap0 h az7⟩
 .refine⟨some ⟨g,0,none⟩,cap,by rw[ay],ak,aD,fun _=>⟨g,0,rfl,bj g ((E g).2 (by rw[ay];rfl)),fun i x hx=>?_⟩⟩;refine cw.mono (fun b O=>⟨aZ b O,rfl⟩) u x _ _ (fun j v V=>?_) (aS i x hx);have:=A9.cells (g:=g) (by rw[ay];rfl) _ v V
  rwa[qi] at this
end
section
variable {P:aD9} {aQ:df} {N:Nat} {ids:aD3} {o:Oper} {K:aW} {B:av} {k:aN->fb->Prop} {C:eZ} {ρ:Nat->bm} {F:Nat->Nat->Prop} {w w':aD8}
def D6 {b:Nat} {cs:aF6} {S:Nat->Prop} (ar:S b):cR S w (w.setRow b cs):=
 ⟨rfl,rfl,rfl,by simp[World.setRow],fun j _ hn=>setRow_other w b j cs (fun e=>hn (by rw[e];exact ar))⟩
def On {p q:Option Prop} (h:tx (HH p q)):tx p/\tx q:=by cases p <;>cases q <;>first |exact⟨trivial,trivial⟩ |exact⟨trivial,h⟩ |exact⟨h,trivial⟩ |exact h
def qu {α:Type} (u:bz) (f:List bw->Option (α×List bw×Option Prop)) (g:α->aa u):Prop:= ∀(ρ:Nat->bm) (I:Nat->Prop) (w:aD8) (l:List bw) (x:α) (l':List bw) (p:Option Prop),f l=some (x,l',p)->tx p-> ∀aB,cb ρ I w l aB->
 ∃nw sz,aB=nw++sz/\nw.length=aR u/\cw I w u (g x) (fun j=>nw[j]?)/\cb ρ I w l' sz/\ ∀v∈nw,v.oneCell'=true
def W9 (k:IntKind):qu (.int k) (HI k) (fun x=>x):=by
 intro ρ I w l x l' p h ao aB ay;unfold HI at h
 split at h
 .rename_i d4 n l
  split at h
  .rename_i Z;have:=nu Z;subst this;simp only[ap5,au9] at h;obtain⟨rfl,rfl,rfl⟩:=h;obtain⟨v,r,rfl,E,G⟩:=ay;have E:v= .int d4 n:=E;subst E;exact⟨[.int d4 n],r,rfl,rfl,rfl,G,by simp[Value.oneCell']⟩
  .cases h
 .cases h
def W':qu .u8 HJ (fun x=>x):=by
 intro ρ I w l x l' p h ao aB ay;unfold HJ at h
 split at h
 .rename_i d4 n l
  split at h
  .rename_i Z;have:=nu Z;subst this;simp only[ap5,au9] at h;obtain⟨rfl,rfl,rfl⟩:=h;obtain⟨v,r,rfl,E,G⟩:=ay;have E:v= .int .u8 n:=E;subst E;have ao:0<=n/\n < 256:=ao;refine⟨[.int .u8 n],r,rfl,rfl,?_,G,by simp[Value.oneCell']⟩;show some (Value.int .u8 n)=some (Value.int .u8 ((UInt8.ofNat n.toNat).toNat:Int))
   congr 2
   rw[UInt8.toNat_ofNat'];omega
  .cases h
 .cases h
def Xa:qu .bool HK (fun x=>x):=by
 intro ρ I w l x l' p h ao aB ay;unfold HK at h
 split at h
 all_goals first |(cases h;done) |skip
 all_goals
  rename_i b l;simp only[ap5,au9] at h;obtain⟨rfl,rfl,rfl⟩:=h;obtain⟨v,r,rfl,E,G⟩:=ay;have E:v= .bool b:=E;subst E;exact⟨[.bool b],r,rfl,rfl,rfl,G,by simp[Value.oneCell']⟩
def Xb:qu .str HL (fun x=>x):=by
 intro ρ I w l x l' p h ao aB ay;unfold HL at h
 split at h
 .rename_i s l;simp only[ap5,au9] at h;obtain⟨rfl,rfl,rfl⟩:=h;obtain⟨v,r,rfl,E,G⟩:=ay;have E:v= .string ⟨s.toArray⟩:=E;subst E;exact⟨[_],r,rfl,rfl,rfl,G,by simp[Value.oneCell']⟩
 .cases h
def Xc:qu .dd HN (fun x=>x):=by
 intro ρ I w l x l' p h ao aB ay;unfold HN at h
 split at h
 .rename_i s l;simp only[ap5,au9] at h;obtain⟨rfl,rfl,rfl⟩:=h;obtain⟨v,r,rfl,E,G⟩:=ay;have E:v=ql s:=E;subst E;refine⟨[_],r,rfl,rfl,rfl,G,?_⟩;rcases s with _ |⟨b,n,c⟩ <;>simp[Value.oneCell',ql]
 .rename_i l;simp only[ap5,au9] at h;obtain⟨rfl,rfl,rfl⟩:=h;obtain⟨v,r,rfl,E,G⟩:=ay;have E:v= .slice none 0 0:=E;subst E;exact⟨[_],r,rfl,rfl,rfl,G,by simp[Value.oneCell']⟩
 .cases h
def Oo {ρ:Nat->bm} {I:Nat->Prop} {w:aD8}: ∀{m:List kc} {bs:aD3} {aB:aD7},AZ m=some bs->hK ρ I w m aB->aB=qm bs
 | [],bs,aB,h,ay=>by
  unfold AZ at h;injection h with h
  rw[<-h];exact ay
 |c::m,bs,aB,h,ay=>by
  unfold AZ at h
  split at h
  .rename_i e;cases e
  .rename_i b l e;injection e with af al
   subst af al
   split at h
   .rename_i r aw;injection h with h
    subst h;obtain⟨v,t,e,E,G⟩:=ay;have E:v= .pointer (some ⟨b,0,none⟩):=E;rw[e,E,Oo aw G];rfl
   .cases h
  .cases h
def Xd:qu .fn HO (fun x=>x):=by
 intro ρ I w l x l' p h ao aB ay;unfold HO at h
 split at h
 .rename_i s l;simp only[ap5,au9] at h;obtain⟨rfl,rfl,rfl⟩:=h;obtain⟨v,r,rfl,E,G⟩:=ay;have E:v=l2 s:=E;subst E;exact⟨[_],r,rfl,rfl,rfl,G,by simp[Value.oneCell',l2]⟩
 .rename_i f m l
  split at h
  .rename_i bs If;simp only[ap5,au9] at h;obtain⟨rfl,rfl,rfl⟩:=h;obtain⟨v,r,rfl,⟨us,e,J⟩,G⟩:=ay;have wK:=Oo If J;subst e wK;exact⟨[_],r,rfl,rfl,rfl,G,by simp[Value.oneCell']⟩
  .cases h
 .cases h
def Xe:qu .aM HM (fun x=>x):=by
 intro ρ I w l x l' p h ao aB ay;unfold HM at h
 split at h
 .rename_i s l;simp only[ap5,au9] at h;obtain⟨rfl,rfl,rfl⟩:=h;obtain⟨v,r,rfl,E,G⟩:=ay;have E:v= .pointer (nl s):=E;subst E;exact⟨[_],r,rfl,rfl,rfl,G,by simp[Value.oneCell']⟩
 .rename_i l;simp only[ap5,au9] at h;obtain⟨rfl,rfl,rfl⟩:=h;obtain⟨v,r,rfl,E,G⟩:=ay;have E:v= .pointer none:=E;subst E;exact⟨[_],r,rfl,rfl,rfl,G,by simp[Value.oneCell']⟩
 .cases h
def Xf (u:bz):qu (.ce u) (HP u) (fun x=>x):=by
 intro ρ I w l x l' p h ao aB ay;unfold HP at h
 split at h
 .rename_i l;simp only[ap5,au9] at h;obtain⟨rfl,rfl,rfl⟩:=h;obtain⟨v,r,rfl,E,G⟩:=ay;have E:v= .slice none 0 0:=E;subst E;exact⟨[_],r,rfl,rfl,⟨none,0,rfl,ao9 _,az8,fun h=>ap0 h az9⟩,G,by simp[Value.oneCell']⟩
 .rename_i v xs l
  split at h
  .rename_i U _;subst U;simp only[ap5,au9] at h;obtain⟨rfl,rfl,rfl⟩:=h;obtain⟨v,r,rfl,E,G⟩:=ay;have E:cw I w (.ce _) xs (fun _=>some v):=E;refine⟨[v],r,rfl,rfl,?_,G,?_⟩
   .obtain⟨A,cap,e,ag⟩:=E;exact⟨A,cap,e,ag⟩
   .obtain⟨A,cap,e,ag⟩:=E;injection e with e
    subst e;simp[Value.oneCell']
  .cases h
 .cases h
def Xg {u v:bz} (E:qu u (np u) (fun x=>x)) (G:qu v (np v) (fun x=>x)):qu (.bT u v) (np (.bT u v)) (fun x=>x):=by
 intro ρ I w l x l' p h ao aB ay;unfold np at h
 cases af:np u l with
 |none=>simp only[af] at h;cases h
 |some t=>
  obtain⟨y,jX,d0⟩:=t;simp only[af] at h
  cases al:np v jX with
  |none=>simp only[al] at h;cases h
  |some t=>
   obtain⟨aF,hi,cU⟩:=t;simp only[al,ap5,au9] at h;obtain⟨rfl,rfl,rfl⟩:=h;obtain⟨cE,cG⟩:=On ao;obtain⟨nw,r1,rfl,g1,g2,cX,jo⟩:=E ρ I w l y jX d0 af cE aB ay;obtain⟨sz,r2,rfl,co,cZ,ei,eI⟩:=G ρ I w jX aF _ cU al cG r1 cX;refine⟨nw++sz,r2,az9,by simp[aR,g1,co],⟨?_,?_⟩,ei,fun x hx=>(ar7.1 hx).elim (jo x) (eI x)⟩
   .refine cw.mk u y _ (cw.wf u y _ g2) fun j V=>?_
    obtain⟨x,hx,H⟩:=cw.cell u y _ j g2 V;exact⟨x,by rw[as0 az7];exact hx,H⟩
   .refine cw.mono (cj.refl _ _) v aF _ _ (fun j x V=>?_) cZ;show(nw++sz)[aR u+j]? =some x;rw[as3 az7,show aR u+j - nw.length=j by omega];exact V
def yF: ∀u:bz,qu u (np u) (fun x=>x)
 | .int k=>W9 k
 | .u8=>W'
 | .bool=>Xa
 | .str=>Xb
 | .aM=>Xe
 | .dd=>Xc
 | .fn=>Xd
 | .ce u=>Xf u
 | .bT u v=>Xg (yF u) (yF v)
 | .arr n u=>fun ρ I w l x l' p h=>by unfold np at h;cases h
def Ig {ρ:Nat->bm} {I:Nat->Prop} {w:aD8} (u:bz): ∀(n:Nat) (l:List bw) (xs:List (aa u)) (p:Option Prop),wA u n l=some (xs,p)->tx p-> ∀aB,cb ρ I w l aB->xs.length=n/\aB.length=n*aR u/\he I w u xs aB/\ ∀v∈aB,v.oneCell'=true
 |0,l,xs,p,h,ao,aB,ay=>by
  unfold wA at h
  split at h
  .simp only[ap5,au9] at h;obtain⟨rfl,rfl⟩:=h;rw[show aB=[] from ay];exact⟨rfl,az9,he.nil u,az9⟩
  .cases h
  .rename_i e;cases e
 |n+1,l,xs,p,h,ao,aB,ay=>by
  unfold wA at h
  cases af:np u l with
  |none=>simp only[af] at h;cases h
  |some t=>
   obtain⟨y,jX,d0⟩:=t;simp only[af] at h
   cases al:wA u n jX with
   |none=>simp only[al] at h;cases h
   |some t=>
    obtain⟨ys,cU⟩:=t;simp only[al,ap5,au9] at h;obtain⟨rfl,rfl⟩:=h;obtain⟨cE,cG⟩:=On ao;obtain⟨nw,r1,rfl,g1,g2,cX,jo⟩:=yF u ρ I w l y jX d0 af cE aB ay;obtain⟨co,cZ,ei,eI⟩:=Ig u n jX ys cU al cG r1 cX;refine⟨by simp[co],by simp[g1,cZ,aw7,Nat.add_comm],?_,fun x hx=>(ar7.1 hx).elim (jo x) (eI x)⟩
    have:he I w u [y] nw:=fun i x hx=>by
     match i with
     |0=>
      simp only[aq2,ap5] at hx;subst hx;exact cw.mono (cj.refl _ _) u y _ _ (fun j v V=>by simpa using V) g2
     |i+1=>simp at hx
    exact he.tE this ei (by simpa using g1)
def Xh (bk:d5 P aQ) {T:aE4} {x v:aE0} (ai:o.op= .store T x v) (h:match aQ.find T with
  |some ti=>match a1 K x with
   | .c (.one (.ptr c o))=>match ae B c with
    |some (.cells l)=>match u1 (a1 K v) with
     |some cs=>match Nat.beq cs.length ti.size,Nat.ble (o+cs.length) l.length with
      |true,true=>oN (AX l o cs) fun l=>k .undef ⟨[c],[],[(c,some (.cells l))]⟩
      |_,_=>False
     |none=>False
    |_=>False
   | .c (.one (.fX c s i o))=>match ae B c with
    |some (.row e u xs)=>match Nat.beq (aR u) 1,Nat.beq s 1,Nat.beq o 0,Nat.beq ti.size 1,a1 K v with
     |true,true,true,true,.c (.one oO)=>match np u [oO] with
      |some (y,[],p)=>(tx p/\i < xs.length)/\k .undef ⟨[c],[],[(c,some (.row e u (xs.set i y)))]⟩
      |_=>False
     |_,_,_,_,_=>False
    |_=>False
   |_=>False
  |none=>False):cI P N ids o K B k:=by
 have m1:x∈o.op.operands:=aA4
 have m2:v∈o.op.operands:=aA4
 split at h
 .rename_i ti gL;obtain⟨c',d,bv⟩:=bk.at_ gL
  split at h
  .rename_i c p J
   split at h
   .rename_i l ak
    split at h
    .rename_i cs fZ
     split at h
     .rename_i E G;have E:=ap8 E;have G:=aw2 G;rw[yr] at h;refine cI.of h <| bC.hz ak fun K' B' af C ρ F a w ah ar gh=>?_
      obtain⟨bj,aB,eL,O,H⟩:=ah.holds c _ gh;have ay:=ar.get v;rw[af v m2] at ay;obtain⟨us,Xi,D7,Xj⟩:=Id fZ ay;have bZ:=cb.length _ _ D7;have Oq:=cb.length _ _ H;refine⟨_,A7 ai (ar.ptr ((af x m1).trans J)) Xi bv.jW (by rw[bZ,E];exact bv.size) O az7 Xj,D6 ((bj _).2 rfl),fun I U=>⟨bj,_,eL,setRow_heap w _ _ _ eL _ O,?_⟩⟩;exact cb.splice (cb.mono U _ _ (fun _ _=>rfl) H) (cb.mono U _ _ (fun _ _=>rfl) D7)
     .exact h.elim
    .exact h.elim
   .exact h.elim
  .rename_i c s i p J
   split at h
   .rename_i e u xs ak
    split at h
    .rename_i oO kZ bF tI Bb u6
     split at h
     .rename_i y q Xk;have kZ:=ap8 kZ;have bF:=ap8 bF;have tI:=ap8 tI;subst bF tI;obtain⟨⟨aY,aG⟩,h⟩:=h;refine cI.of h <| bC.hz ak fun K' B' af C ρ F a w ah ar gh=>?_
      obtain⟨bj,jH,cs,dP,ma⟩:=ah.holds c _ gh;have ay:=ar.get v;rw[af v m2,u6] at ay;have Ih:=ar.fX ((af x m1).trans J);obtain⟨nw,sz,c3,g1,g2,cX,jo⟩:=yF u ρ _ w [oO] y [] q Xk aY [a.eval v] ⟨_,[],rfl,ay,rfl⟩;have bZ:nw.length=1:=by rw[g1,kZ]
      obtain rfl:nw=[a.eval v]:=by
       match nw,bZ with
       | [aF],_=>simp at c3;rw[c3.1]
      have tG:=jo (a.eval v) az9
      have AQ:(a.eval v).cells=List.toArray [a.eval v]:=by
       cases hx:a.eval v <;>first |rfl |(rw[hx] at tG;simp[Value.oneCell'] at tG)
      have Ot:=dP;obtain⟨sl,dP⟩:=dP;rcases dP with⟨_,au⟩ |⟨g,cap,fW,oe,_,aV,D8,aD,cL,cq⟩
      .omega
      .have yG:g=(ρ c).bh:=jH g (by rw[oe];rfl);subst yG;rw[kZ,Nat.mul_one] at cL cq sl;have tJ:w.heap[(ρ c).bh]? =some (.cells (List.toArray fW.toList) e (0,0)):=by simpa using aV
       have oP:i*1+0+ [a.eval v].length<=fW.toList.length:=aB1
       have tK:=A7 (P:=P) (ev:=a.eval) (w:=w) ai Ih AQ bv.jW (by rw[bv.size,ap8 Bb];rfl) tJ oP (by simpa using tG);refine⟨_,tK,D6 ((bj _).2 (by rw[oe];rfl)),fun I U=>?_⟩;have og:=setRow_heap w (ρ c).bh fW (List.take (i*1+0) fW.toList++[a.eval v]++List.drop (i*1+0+ [a.eval v].length) fW.toList).toArray e (0,0) aV
       have hj:(List.take (i*1+0) fW.toList++[a.eval v]++List.drop (i*1+0+ [a.eval v].length) fW.toList)=fW.toList.set i (a.eval v):=by
        rw[List.set_eq_take_append_cons_drop,vj aB1];simp
       rw[hj] at og;refine⟨bj,jH,cs.set i (a.eval v),⟨by simp[sl,kZ],.inr ⟨(ρ c).bh,cap,_,by rw[oe];simp,ap9 _,by rw[hj];exact og,by simpa using D8,aD,by simp[cL,kZ],?_⟩⟩,fun j aF aO=>?_⟩
       .rw[<-cq];simp[kZ,List.take_set]
       .by_cases kM:i=j
        .subst kM;rw[au1 aG] at aO;injection aO with aO
         subst aO;refine cw.mono U u y _ _ (fun q x hx=>?_) g2
         match q with
         |0=>
          rw[kZ,Nat.mul_one,aw0,au1 az7];simpa using hx
         |q+1=>simp at hx
        .rw[as6 kM] at aO;have H:=ma j aF aO;refine cw.mk u aF _ (cw.wf u aF _ H) fun q aY=>?_
         obtain⟨x,hx,oQ⟩:=cw.cell u aF _ q H aY;refine⟨x,?_,gA.mono U _ _ oQ⟩;rw[kZ] at aY⊢;rw[kZ] at hx;rw[as6 az7];exact hx
     .exact h.elim
    .exact h.elim
   .exact h.elim
  .exact h.elim
 .exact h.elim
end
end
section
section
variable {P:aD9} {aQ:df} {N:Nat} {ids:aD3} {o:Oper} {K:aW} {B:av} {k:aN->fb->Prop}
def Ou {ρ:Nat->bm} {I:Nat->Prop} {w:aD8} {v:aE7} {s:bw} (h:H8 v s=true):dU ρ I w s v/\v.oneCell'=true:=by
 unfold H8 at h
 split at h
 .rename_i k n d4 rq;simp only[ao8,as1] at h;have:=nu h.1;subst this;rw[h.2];exact⟨rfl,rfl⟩
 .rename_i b eb;rw[show b=eb by simpa using h];exact⟨rfl,rfl⟩
 .rename_i s l;have h:s.data.toList=l:=aA6
  subst h;exact⟨by simp[dU,gA],rfl⟩
 .exact⟨rfl,rfl⟩
 .exact⟨rfl,rfl⟩
 .exact⟨rfl,rfl⟩
 .exact⟨rfl,rfl⟩
 .exact⟨rfl,rfl⟩
 .cases h
def u7 {ρ:Nat->bm} {I:Nat->Prop} {w:aD8}: ∀(aB:aD7) (l:List bw),sw aB l=true->cb ρ I w l aB/\ ∀u∈aB,u.oneCell'=true
 | [],[],_=>⟨rfl,az9⟩
 |v::aB,s::l,h=>by
  simp only[sw,ao8] at h;obtain⟨E,G⟩:=Ou (ρ:=ρ) (I:=I) (w:=w) h.1;obtain⟨ag,aS⟩:=u7 (ρ:=ρ) (I:=I) (w:=w) aB l h.2;exact⟨⟨v,aB,rfl,E,ag⟩,fun u a8=>(ap7.1 a8).elim (fun e=>e▸G) (aS u)⟩
 | [],_::_,h=>by simp[sw] at h
 |_::_,[],h=>by simp[sw] at h
def Ov {c d p:Nat} (h:aN.has d (.c (.one (.ptr c p)))=true):d=c:=(ap8 h).symm
def Bc {c d:Nat} (h:aN.has d (.c (.one (.own c)))=true):d=c:=(ap8 h).symm
def Xl (bk:d5 P aQ) {T:aE4} (ai:o.op= .alloc T) (h:match aQ.find T,o.dst with
  |some ti,some d=>gS ids K B d=true/\k (.c (.one (.ptr d 0))) ⟨[],[d],[(d,some (.cells ti.zero))]⟩
  |_,_=>False):cI P N ids o K B k:=by
 split at h
 .rename_i ti d gL H;obtain⟨i,ds,bv⟩:=bk.at_ gL;obtain⟨aF,aO,oh⟩:=bv.zero;refine cI.bb h.2 h.1 <| bC.make (fun d h=>Ov h) fun K' B' E G C ρ F a w ah ar hn=>?_
  refine⟨_,_,⟨w.heap.size,none,0,0⟩,fun b=>b=w.heap.size,(by
   simp[execOp,ai,Instr.alloc,zeroValue,typeInfo,bv.jW,aO,newVar,newRow];rfl),uZ w _,fun b O=>by subst O;exact⟨ao9 _,az9⟩,fun I U O=>⟨⟨fun b=>Iff.rfl,aF.cells.toList,T,Hv _ rfl,(u7 _ _ oh).1⟩,?_⟩⟩
  simp only[cv,gu,dU,dr]
 .exact h.elim
def Xm (bk:d5 P aQ) {T:aE4} {x:aE0} (ai:o.op= .box T x) (h:match aQ.find T,o.dst,u1 (a1 K x) with
  |some ti,some d,some l=>match Nat.beq l.length ti.size with
   |true=>gS ids K B d=true/\k (.c (.one (.ptr d 0))) ⟨[],[d],[(d,some (.cells l))]⟩
   |false=>False
  |_,_,_=>False):cI P N ids o K B k:=by
 have m1:x∈o.op.operands:=aA4
 split at h
 .rename_i ti d l gL H ak
  split at h
  .refine cI.bb h.2 h.1 <| bC.make (fun d h=>Ov h) fun K' B' E G C ρ F a w ah ar hn=>?_
   have ay:=ar.get x;rw[E x m1] at ay;obtain⟨aB,af,al,bt⟩:=Id ak ay
   refine⟨_,_,⟨w.heap.size,none,0,0⟩,fun b=>b=w.heap.size,(by
    simp[execOp,ai,Instr.box,newVar,newRow,af];rfl),uZ w _,fun b O=>by subst O;exact⟨ao9 _,az9⟩,fun I U O=>⟨⟨fun b=>Iff.rfl,aB,T,Hv _ rfl,?_⟩,?_⟩⟩
   .refine cb.mono U l aB (fun c J=>?_) al;refine dt _ _ fun e=>?_
    subst e
    have bf:(a1 K x).has c=true:=by
     unfold u1 at ak
     split at ak
     .rename_i hx
      split at ak
      .injection ak with ak;subst ak;rw[hx];simpa[aN.has,dH.has,l3] using J
      .cases ak
     .rename_i hx
      split at ak
      .injection ak with ak;subst ak;rw[hx];simpa[aN.has,dH.has] using J
      .cases ak
     .cases ak
    rw[<-E x m1] at bf
    cases x with
    |tmp t=>have:=hn t;simp only[a1] at bf;rw[this] at bf;cases bf
    |const v=>
     have lg: ∀u:Value,(u0 u).has c=false:=fun u=>by unfold u0;split <;>rfl
     have dI: ∀us:List Value,l3 c (us.map u0)=false:=fun us=>by induction us with
      |nil=>rfl
      |cons u us bl=>simp[l3,lg,bl]
     simp only[a1] at bf;unfold DB at bf
     split at bf <;>simp[aN.has,dH.has,lg,dI] at bf
    |func f=>simp[a1,aN.has,dH.has,bw.has,lC] at bf
    |global g=>simp[a1,aN.has,dH.has,bw.has] at bf
   .simp only[cv,gu,dU,dr]
  .exact h.elim
 .exact h.elim
def Ow: ∀(us:aD7) (off j:Nat) (p m s:aD7),p.length=off+j->m.length=us.length->
  (us.zipIdx j).foldl (fun cs p=>cs.setIfInBounds (off+p.2) p.1) (p++m++s).toArray=(p++us++s).toArray
 | [],off,j,p,m,s,ao,aD=>by
  rw[show m=[] from at4 (by simpa using aD)];simp
 |u::us,off,j,p,[],s,ao,aD=>by simp at aD
 |u::us,off,j,p,x::m,s,ao,aD=>by
  simp only[List.zipIdx_cons,List.foldl_cons]
  have e:(p++x::m++s).toArray.setIfInBounds (off+j) u=((p++[u])++m++s).toArray:=by
   rw[List.setIfInBounds_toArray,<-ao];simp
  rw[e,Ow us off (j+1) (p++[u]) m s aB1 (by simpa using aD)];simp
def Xn (us aB:aD7) (off:Nat) (h:off+us.length<=aB.length):
  (us.zipIdx).foldl (fun cs p=>cs.setIfInBounds (off+p.2) p.1) aB.toArray=(aB.take off++us++aB.drop (off+us.length)).toArray:=by
 have e:aB=aB.take off++(aB.drop off).take us.length++aB.drop (off+us.length):=by
  rw[av2,<-List.drop_drop,List.take_append_drop,List.take_append_drop]
 have:=Ow us off 0 (aB.take off) ((aB.drop off).take us.length) (aB.drop (off+us.length)) aB1 aB1;rw[<-e] at this;exact this
def Ii {K':aW} {ρ:Nat->bm} {I:Nat->Prop} {a:Act} {w:aD8} (ar:eh K' ρ I a w) {l6 place:Nat->Option (Nat×Nat)} (gM: ∀i d n,l6 i=some (d,n)->place i=some (d,n)):
  ∀(bE:List (Nat×Operand)) (l l':List bw) (aB:aD7),(∀p∈bE,a1 K' p.2=a1 K p.2)->u2 K l6 bE l=some l'->cb ρ I w l aB->(∀u∈aB,u.oneCell'=true)->
   ∃rr,Instr.fill place (List.toArray aB) (bE.map fun p=>(p.1,a.eval p.2))=some (List.toArray rr)/\cb ρ I w l' rr/\ ∀u∈rr,u.oneCell'=true
 | [],l,l',aB,_,h,ay,E=>by
  simp only[u2,ap5] at h;subst h;exact⟨aB,rfl,ay,E⟩
 |(i,x)::bE,l,l',aB,cT,h,ay,E=>by
  unfold u2 at h
  split at h
  .rename_i d n cs H fZ
   split at h
   .rename_i af al;have af:=ap8 af;have al:=aw2 al;have hx:=ar.get x;rw[cT (i,x) az9] at hx;obtain⟨us,g1,g2,cX⟩:=Id fZ hx;have cE:=cb.length _ _ g2;have cG:=cb.length _ _ ay
    obtain⟨rr,co,cZ,ei⟩:=Ii ar gM bE _ l' (aB.take d++us++aB.drop (d+us.length)) (fun p ao=>cT p (by simp[ao])) h (cb.splice ay g2) (fun u a8=>by
     simp only[ar7] at a8;rcases a8 with(a8 |a8) |a8
     .exact E u (List.mem_of_mem_take a8)
     .exact cX u a8
     .exact E u (List.mem_of_mem_drop a8))
    refine⟨rr,?_,cZ,ei⟩;rw[<-co];simp only[aq5,Instr.fill,gM i d n H,g1];have hf:=Xn us aB d az7;rw[mu aB1]
    congr 1
    rw[<-hf,<-Array.foldl_toList,Array.toList_zipIdx]
   .cases h
  .cases h
def Xo {fs:List Field} {l:aG0} (h:qs P fs l=true):fs.mapM (fun f=>(P.info? f.type).map fun i=>(f.offset,i.size))=some l:=by
 induction fs generalizing l with
 |nil=>cases l with
  |nil=>rfl
  |cons _ _=>simp[qs] at h
 |cons f fs bl=>cases l with
  |nil=>simp[qs] at h
  |cons p l=>
   obtain⟨d,n⟩:=p;simp only[qs,ao8] at h;obtain⟨⟨⟨E,G⟩,_⟩,aS⟩:=h
   split at G
   .rename_i i aG;have G:=ap8 G;have E:=ap8 E;simp[List.mapM_cons,aG,bl aS,E,G]
   .cases G
def Xp (bk:d5 P aQ) {T:aE4} {bE:Array (Nat×Operand)} (ai:o.op= .build T bE) (h:match aQ.find T with
  |some ti=>match ti.kd,u2 K (fun f=>ti.l6[f]?) bE.toList ti.zero with
   | .st,some l=>oN l fun l=>k (.c (.agg l)) bI
   |_,_=>False
  |none=>False):cI P N ids o K B k:=by
 split at h
 .rename_i ti gL;obtain⟨i,d,bv⟩:=bk.at_ gL;obtain⟨aF,aO,oh⟩:=bv.zero
  split at h
  .rename_i l Z ak;rw[yr] at h;refine cI.of h <| bC.val fun K' B' E G C ρ F a w ah ar=>?_
   obtain⟨kl,qv⟩:=u7 (ρ:=ρ) (I:=bX C B' F w) (w:=w) _ _ oh;obtain⟨rr,g3,io,f3⟩:=Ii (K:=K) ar (l6:=fun f=>ti.l6[f]?) (place:=fun f=>ti.l6[f]?) (fun i d n aG=>aG) bE.toList _ _ _ (fun p ao=>E p.2 (by rw[ai];simp only[Op.operands];simpa using⟨p.1,by simpa using ao⟩)) ak kl qv;refine⟨.agg (List.toArray rr),?_,rr,rfl,io⟩
   have Xq:P.built T (bE.toList.map fun p=>(p.1,a.eval p.2))=some (List.toArray rr):=by
    unfold Program.built;rw[bv.jW,bv.nv];obtain⟨fs,_,sA⟩:=bv.st Z;have:=Xo (bv.l6 fs sA);subst sA;simp only[aO,this];simpa using g3
   unfold execOp;simp only[ai,as8,run_build w T _ _ (show P.built T ((bE.map fun p=>(p.1,a.eval p.2)).toList)=_ by simpa using Xq),ar0];rfl
  .exact h.elim
 .exact h.elim
end
end
section
section
variable {P:aD9} {aQ:df} {N:Nat} {ids:aD3} {o:Oper} {K:aW} {B:av} {k:aN->fb->Prop}
def oR (bk:d5 P aQ) {T e:Nat} {te:b5} (h:elemOf aQ T=some (e,te)):P.underlying T=some (.slice e)/\ ∃i d,lE P e te i d:=by
 unfold elemOf at h
 split at h
 .rename_i ti gL
  split at h
  .rename_i ca Z
   split at h
   .rename_i aog u9;injection h with h
    injection h with E G
    subst E G;obtain⟨_,_,bv⟩:=bk.at_ gL;exact⟨bv.ce Z,bk.at_ u9⟩
   .cases h
  .cases h
 .cases h
def D9 (bk:d5 P aQ) {T:Nat} (h:wE aQ T=true):P.underlying T=some .string:=by
 unfold wE at h
 split at h
 .rename_i ti gL
  split at h
  .rename_i Z;obtain⟨_,_,bv⟩:=bk.at_ gL;exact bv.str Z
  .cases h
 .cases h
def wL (bk:d5 P aQ) {T:Nat} (h:qr aQ T=true):P.underlying T=some (.int .u8)/\ ∃ti i d,lE P T ti i d/\ti.zero=[.d (.int .u8 0)]/\ti.size=1/\ti.bytes=1:=by
 unfold qr at h
 split at h
 .rename_i ti gL
  split at h
  .rename_i Z aO ax O;obtain⟨i,d,bv⟩:=bk.at_ gL;exact⟨bv.int Z,ti,i,d,bv,aO,ax,O⟩
  .cases h
 .cases h
def rs (n:Nat) (l:aD7):List Value:=match n with
 |0=>[]
 |n+1=>l++rs n l
def Xr (n:Nat) (l:aD7):(rs n l).length=n*l.length:=by
 induction n with
 |zero=>simp[rs]
 |succ n bl=>simp[rs,bl,aw7,Nat.add_comm]
def Xs (n:Nat) (l:aD7): ∀j,j < n*l.length->(rs n l)[j]? =l[j % l.length]? :=by
 induction n with
 |zero=>intro j V;simp at V
 |succ n bl=>
  intro j V;unfold rs
  by_cases h:j < l.length
  .rw[as0 h,Nat.mod_eq_of_lt h]
  .rw[as3 az7,bl _ (by rw[aw7] at V;omega),Nat.mod_eq_sub_mod (a:=j) az7]
def Xt {ρ:Nat->bm} {I:Nat->Prop} {w:aD8} (n:Nat) {l:List bw} {aB:aD7} (h:cb ρ I w l aB):cb ρ I w (DK n l) (rs n aB):=by
 induction n with
 |zero=>rfl
 |succ n bl=>exact cb.tE _ _ _ _ h bl
def Xu {n:Nat} {l:aD7} {v:aE7} (h:v∈rs n l):v∈l:=by
 induction n with
 |zero=>simp[rs] at h
 |succ n bl=>exact(ar7.1 h).elim id bl
def Xv (aF:aF6) (n:Nat) (aO:0 < aF.size):(Array.range (n*aF.size)).map (aF[· % aF.size]!)=(rs n aF.toList).toArray:=by
 apply Array.ext';simp only[Array.toList_map,List.toList_toArray];apply aw5;intro j
 by_cases V:j < n*aF.size
 .rw[Xs n aF.toList j aB6];simp only[Array.length_toList];have aD:j % aF.size < aF.size:=Nat.mod_lt _ aO;simp[V,aD]
 .rw[av7 aB1,av7 (by rw[Xr];simp;omega)]
def Xw {w:aD8} {l:aD7} {e:aE4} {j:Nat} {v:aE7} (h:l[j]? =some v):(w.alloc (.cells (List.toArray l) e)).cell? ⟨w.heap.size,j,none⟩=some v:=
 od (T:=e) (heap_alloc_new w _) h
def Xx {I:Nat->Prop} {w:aD8} {u:bz} {xs:List (aa u)} {cs:aD7} {e:aE4} {cap:Nat} (aw:he I (w.alloc (.cells (List.toArray cs) e)) u xs cs) (aZ:I w.heap.size) (J:xs.length<=cap) (aD:cap<=maxLen):
  cw I (w.alloc (.cells (List.toArray cs) e)) (.ce u) xs (fun _=>some (.slice (some ⟨w.heap.size,0,none⟩) xs.length cap)):=
 ⟨_,cap,rfl,J,aD,fun _=>⟨_,0,rfl,aZ,fun i x hx=>cw.mono (cj.refl _ _) u x _ _ (fun j v V=>by
  simp only[at5];exact Xw V) (aw i x hx)⟩⟩
def D' (w:aD8) (e s n:Nat) (cs:aD7) (ak:cs.length=n*s) (aD:n<=maxLen):(w.alloc (.cells (List.toArray cs) e)).ownsRow 0 e s (.slice (some ⟨w.heap.size,0,none⟩) n n) n cs:=
 ⟨ak,.inr ⟨_,n,_,rfl,ap9 _,heap_alloc_new w _,ao9 _,aD,by simpa using ak,by simp[<-ak]⟩⟩
def Xy (bk:d5 P aQ) {T:aE4} {bE:Array (Nat×Operand)} (ai:o.op= .buildSlice T 0 bE) (h:match elemOf aQ T,o.dst with
  |some (e,te),some d=>match te.u with
   |some u=>gS ids K B d=true/\k (.c (.one (.own d))) ⟨[],[d],[(d,some (.row e u []))]⟩
   |none=>False
  |_,_=>False) (lh:bE.toList=[]):cI P N ids o K B k:=by
 split at h
 .rename_i e te d U H;obtain⟨a8,c',ds,bv⟩:=oR bk U
  split at h
  .rename_i u u9;refine cI.bb h.2 h.1 <| bC.make (fun d h=>Bc h) fun K' B' E G C ρ F a w ah ar hn=>?_
   have Xz:bE= #[]:=Array.toList_eq_nil_iff.1 lh;refine⟨.slice (some ⟨w.heap.size,0,none⟩) 0 0,w.alloc (.cells #[] e),⟨w.heap.size,some ⟨w.heap.size,0,none⟩,0,0⟩,fun b=>b=w.heap.size,?_,uZ w _,fun b O=>by subst O;exact⟨ao9 _,az9⟩,fun I U O=>⟨⟨?_,?_,[],?_,he.nil u⟩,?_⟩⟩
   .subst Xz;simp[execOp,ai,Instr.buildSlice,run_underlying a8,sizeOf,typeInfo,bv.jW,Instr.fill,newRow];rw[show(Array.range 0)= #[] from rfl];simp
   .intro b;simp[bm.fa,Value.ownBlock,eq_comm]
   .intro b O;simp[bm.fa,Value.ownBlock] at O;exact O.symm
   .exact D' w e (aR u) 0 [] az9 az8
   .simp only[cv,gu,dU,dr,bm.fa]
  .exact h.elim
 .exact h.elim
def XA (bk:d5 P aQ) {T n:Nat} {bE:Array (Nat×Operand)} (ai:o.op= .buildSlice T n bE) (wM:n≠0) (h:match elemOf aQ T with
  |some (_,te)=>match te.u with
   |some u=>match Nat.ble (n*te.size) 1000,u2 K (fun i=>some (i*te.size,te.size)) bE.toList (DK n te.zero) with
    |true,some l=>match wA u n l with
     |some (xs,none)=>k (.c (.one (.d (.cr u xs)))) bI
     |some (xs,some p)=>p/\k (.c (.one (.d (.cr u xs)))) bI
     |none=>n=1/\ ∃y:aa u,(n3 u y/\l=fE u y 0 (aR u))/\k (.c (.one (.d (.cr u [y])))) bI
    |_,_=>False
   |none=>False
  |none=>False):cI P N ids o K B k:=by
 split at h
 .rename_i e te U;obtain⟨a8,c',ds,bv⟩:=oR bk U;obtain⟨aF,aO,oh⟩:=bv.zero
  split at h
  .rename_i u u9
   split at h
   .rename_i l hh ak;have hh:=aw2 hh
    have rt: ∀xs:List (aa u),(∀(ρ:Nat->bm) (I:Nat->Prop) (w:aD8) (aB:aD7),cb ρ I w l aB->xs.length=n/\aB.length=n*aR u/\he I w u xs aB)->bC P N ids o K B (.c (.one (.d (.cr u xs)))) bI:=fun xs hL=>bC.new fun K' B' E G C ρ F a w ah ar=>by
     obtain⟨kl,qv⟩:=u7 (ρ:=ρ) (I:=bX C B' F w) (w:=w) _ _ oh
     have qj:aF.cells.size=c'.size:=by
      have E:=cb.length _ _ kl;simp at E;rw[E,bv.Ia,bv.size]
     have li:0 < c'.size:=by have:=bv.pos;have:=bv.size;omega
     have ru:aR u=c'.size:=(bv.u u u9).trans bv.size.symm
     obtain⟨aB,g3,io,f3⟩:=Ii (K:=K) ar (l6:=fun i=>some (i*te.size,te.size)) (place:=fun i=>some (i*c'.size,c'.size)) (fun i d n aG=>by rw[bv.size];exact aG) bE.toList _ _ (rs n aF.cells.toList)
      (fun p ao=>E p.2 (by rw[ai];simp only[Op.operands];simpa using⟨p.1,by simpa using ao⟩)) ak (Xt n kl) (fun v ay=>qv v (Xu ay))
     obtain⟨hA,iY,pA⟩:=hL ρ _ w aB io
     have d1:=run_buildSlice (P:=P) w T e n (bE.map fun p=>(p.1,a.eval p.2)) (List.toArray aB) c' aF a8 bv.jW aO (by rw[bv.size];omega)
      (by rw[Nat.mul_eq_zero];omega) (by rw[<-qj,Xv aF.cells n az7,qj];simpa using g3)
     refine⟨.slice (some ⟨w.heap.size,0,none⟩) n n,w.alloc (.cells (List.toArray aB) e),?_,uZ w (.cells (List.toArray aB) e),fun I U aZ=>?_⟩
     .unfold execOp;simp only[ai,as8,d1,ar0];rfl
     .have:=Xx (e:=e) (cap:=n) (he.mono (U) pA) (aZ _ (ao9 _) az9) az7 (by simp only[maxLen];have:=Nat.le_mul_of_pos_right n (show 0 < te.size by have:=bv.pos;omega);omega);rw[hA] at this;exact this
    split at h
    .rename_i xs H
     exact cI.of h <| rt xs fun ρ I w aB ay=>by
      obtain⟨hA,iY,pA,_⟩:=Ig u n l xs none H trivial aB ay;exact⟨hA,iY,pA⟩
    .rename_i xs p H
     exact cI.of h.2 <| rt xs fun ρ I w aB ay=>by
      obtain⟨hA,iY,pA,_⟩:=Ig u n l xs (some p) H h.1 aB ay;exact⟨hA,iY,pA⟩
    .obtain⟨hn,y,⟨hw,gh⟩,h⟩:=h;subst hn;refine cI.of h <| rt [y] fun ρ I w aB ay=>?_
     subst gh;refine⟨rfl,by rw[cb.length _ _ ay,sy,Nat.one_mul],fun i x hx=>?_⟩
     match i with
     |0=>
      simp only[aq2,ap5] at hx;subst hx;refine cw.mono (cj.refl _ _) u y _ _ (fun j v V=>?_) (A8 hw ay);rw[Nat.zero_mul,at5];exact V
     |i+1=>simp at hx
   .exact h.elim
  .exact h.elim
 .exact h.elim
end
end
section
section
variable {P:aD9} {aQ:df} {N:Nat} {ids:aD3} {o:Oper} {K:aW} {B:av} {k:aN->fb->Prop}
def Ox {ev:Operand->Value} {T wN:aE4} {x i:aE0} {b q n c s:Nat} {w:aD8} {m:Int} {c':aF2} (ai:o.op= .indexAddr T x i) (hx:ev x= .slice (some ⟨b,q,none⟩) n c) (aG:ev i= .int .i64 m) (a8:P.underlying T=some (.slice wN)) (AR:P.info? wN=some c') (ax:c'.size=s)
  (au:0<=m) (Z:m.toNat < n):(execOp ev o).run P w= .ok (.value (.pointer (some ⟨b,q+m.toNat*s,none⟩))) w:=by
 subst ax;have E:m < (n:Int):=aA5
 simp[execOp,ai,hx,aG,Instr.indexAt,asIntOf,run_underlying a8,au,E,sizeOf,typeInfo,AR,qi]
def XB (bk:d5 P aQ) {T:aE4} {x i:aE0} (ai:o.op= .indexAddr T x i) (h:match elemOf aQ T,a1 K i with
  |some (_,te),.c (.one (.d (.int .i64 n)))=>match a1 K x with
   | .c (.one (.d (.cr u xs)))=>match Nat.beq te.size (aR u) with
    |true=>0<=n/\ ∃y,fi xs n.toNat=some y/\k (.c (.one (.el u y 0))) bI
    |false=>False
   | .c (.one (.own c))=>match ae B c with
    |some (.row _ u xs)=>match Nat.beq te.size (aR u) with
     |true=>(0<=n/\n < xs.length)/\k (.c (.one (.fX c (aR u) n.toNat 0))) ⟨[c],[],[]⟩
     |false=>False
    |_=>False
   |_=>False
  |_,_=>False):cI P N ids o K B k:=by
 have m1:x∈o.op.operands:=aA4
 have m2:i∈o.op.operands:=aA4
 split at h
 .rename_i e te n U aG;obtain⟨a8,c',ds,bv⟩:=oR bk U
  split at h
  .rename_i u xs hx
   split at h
   .rename_i ax;have ax:=ap8 ax;obtain⟨au,y,aC,h⟩:=h;refine cI.of h <| bC.two hx aG m1 m2 fun K' ρ I a w ar af al=>?_
    obtain⟨A,cap,bt,c3,gi,hM⟩:=ar.cr af;injection bt with bt
    have br:=AT aC;obtain⟨b,q,rfl,aZ,H⟩:=hM az7;refine⟨_,Ox ai bt (ar.int al) a8 bv.jW (bv.size.trans ax) au br,b,q+n.toNat*aR u,by rw[aw0],aZ,?_⟩;refine cw.mono (cj.refl _ _) u y _ _ (fun j v V=>?_) (H _ y aC);rw[<-V]
    congr 2
    omega
   .exact h.elim
  .rename_i c hx
   split at h
   .rename_i ca u xs ak
    split at h
    .rename_i ax;have ax:=ap8 ax;obtain⟨⟨au,E⟩,h⟩:=h;refine cI.of h <| bC.val fun K' B' g1 g2 C ρ F a w ah ar=>?_
     obtain⟨bj,jH,cs,dP,_⟩:=ah.holds c _ ((g2 c az9).trans ak);have dF:=ar.own ((g1 x m1).trans hx);rcases dP.2 with⟨_,G⟩ |⟨g,cap,fW,ay,_⟩
     .omega
     .have O:=jH g (by rw[ay];rfl);refine⟨_,Ox ai (dF.trans ay) (ar.int ((g1 i m2).trans aG)) a8 bv.jW (bv.size.trans ax) au az7,?_⟩;simp only[cv,gu,dU];rw[<-O,at5,aw0]
    .exact h.elim
   .exact h.elim
  .exact h.elim
 .exact h.elim
def XC (bk:d5 P aQ) {T:aE4} {x i:aE0} (ai:o.op= .index T x i) (h:match wE aQ T,a1 K x,a1 K i with
  |true,.c (.one (.d (.str s))),.c (.one (.d (.int .i64 n)))=>0<=n/\ ∃y,fi s n.toNat=some y/\k (.c (.one (.d (.int .u8 (UInt8.toNat y:Int))))) bI
  |_,_,_=>False):cI P N ids o K B k:=by
 have m1:x∈o.op.operands:=aA4
 have m2:i∈o.op.operands:=aA4
 split at h
 .rename_i s n b4 hx aG;obtain⟨au,y,aC,h⟩:=h;have a8:=D9 bk b4;refine cI.of h <| bC.two hx aG m1 m2 fun K' ρ I a w ar af al=>⟨_,?_,rfl⟩
  have O:(⟨s.toArray⟩:aF5)[n.toNat]? =some y:=by
   have br:=AT aC;have:=(ap6.1 aC).2;rw[getElem?_pos (⟨s.toArray⟩:aF5) n.toNat (by rw[wJ];exact br)];simp only[ap5];rw[<-this];rfl
  simp[execOp,ai,ar.str af,ar.int al,Instr.index,asIntOf,run_underlying a8,au,O]
 .exact h.elim
def Ij {K':aW} {ρ:Nat->bm} {I:Nat->Prop} {a:Act} {w:aD8} (ar:eh K' ρ I a w) {n cap:Nat} {Ea:Bool} {h5 aG:Option Operand} {l h:Nat} {p:Prop} (O:yv n (h5.map (a1 K)) (aG.map (a1 K))=some (l,h,p)) (ao:p) (J:n<=cap)
  (ak: ∀x,h5=some x->a1 K' x=a1 K x) (bf: ∀x,aG=some x->a1 K' x=a1 K x):
  (Instr.sliceBounds Ea n cap (h5.map a.eval) (aG.map a.eval) none).run P w= .ok (l,h,cap) w/\l<=h/\h<=n:=by
 unfold yv at O
 split at O
 .rename_i j E G
  cases h5 with
  |some x=>simp at E
  |none=>
   cases aG with
   |none=>simp at G
   |some y=>
    simp only[av4,ap5] at G;simp only[ap5,au9] at O;obtain⟨rfl,rfl,rfl⟩:=O;have aC:=ar.int ((bf y rfl).trans G);have q:j<=(cap:Int):=aA5
    refine⟨?_,az7,az7⟩;simp[Instr.sliceBounds,Instr.sliceBound,asIntOf,aC,ao.1,q]
 .rename_i i E G
  cases h5 with
  |none=>simp at E
  |some x=>
   cases aG with
   |some y=>simp at G
   |none=>
    simp only[av4,ap5] at E;simp only[ap5,au9] at O;obtain⟨rfl,rfl,rfl⟩:=O;have hx:=ar.int ((ak x rfl).trans E);refine⟨?_,az7,ao9 _⟩;simp[Instr.sliceBounds,Instr.sliceBound,asIntOf,hx,ao.1,ao.2]
 .rename_i i j E G
  cases h5 with
  |none=>simp at E
  |some x=>
   cases aG with
   |none=>simp at G
   |some y=>
    simp only[av4,ap5] at E G;simp only[ap5,au9] at O;obtain⟨rfl,rfl,rfl⟩:=O;have hx:=ar.int ((ak x rfl).trans E);have aC:=ar.int ((bf y rfl).trans G);have Ik:0<=j:=aA5
    have q:j<=(cap:Int):=aA5
    have cE:i<=((j.toNat:Nat):Int):=aA5
    refine⟨?_,az7,az7⟩;simp[Instr.sliceBounds,Instr.sliceBound,asIntOf,hx,aC,ao.1,Ik,q,ao.2.1];intro br;omega
 .rename_i E G
  cases h5 with
  |some x=>simp at E
  |none=>
   cases aG with
   |some y=>simp at G
   |none=>
    simp only[ap5,au9] at O;obtain⟨rfl,rfl,rfl⟩:=O;refine⟨?_,ap9 _,ao9 _⟩;simp[Instr.sliceBounds]
 .cases O
def XD {I:Nat->Prop} {w:aD8} {u:bz} {xs:List (aa u)} {A:Option Addr} {cap l h:Nat} (hx:cw I w (.ce u) xs (fun _=>some (.slice A xs.length cap))) (ak:l<=h) (bf:h<=xs.length):
  cw I w (.ce u) ((xs.take h).drop l) (fun _=>some (.slice (if cap=l then A else A.map (·.add (l*aR u))) (h - l) (cap - l))):=by
 obtain⟨A',aoh,e,E,G,ag⟩:=hx;injection e with e
 injection e with af al bt
 subst af bt;have bZ:List.length ((xs.take h).drop l)=h - l:=by rw[au8,aq0];omega
 refine⟨_,_,by rw[bZ],by rw[bZ];omega,az7,fun li=>?_⟩;rw[bZ] at li;obtain⟨b,q,rfl,aZ,H⟩:=ag az7;refine⟨b,q+l*aR u,by rw[mu az7,av4,qi],aZ,fun i x aG=>?_⟩
 have Il:fi (α:=aa u) xs (l+i)=some x:=by
  unfold fi at aG⊢;rw[ay2,au4] at aG
  split at aG
  .exact aG
  .cases aG
 refine cw.mono (cj.refl _ _) u x _ _ (fun j v V=>?_) (H _ x Il);rw[<-V,Nat.add_mul]
 congr 2
 omega
def XE (bk:d5 P aQ) {T:aE4} {x:aE0} {h5 aG:Option Operand} (ai:o.op= .slice T x h5 aG none) (h:HV aQ T (a1 K x) (h5.map (a1 K)) (aG.map (a1 K)) k):cI P N ids o K B k:=by
 have m1:x∈o.op.operands:=aA4
 have m2: ∀y,h5=some y->y∈o.op.operands:=fun y aC=>by rw[ai];simp[Op.operands,aC]
 have m3: ∀y,aG=some y->y∈o.op.operands:=fun y aC=>by rw[ai];simp[Op.operands,aC]
 unfold HV at h
 split at h
 .rename_i s hx
  split at h
  .rename_i l bf p b4 O;have a8:=D9 bk b4;refine cI.of h.2 <| bC.val fun K' B' E G C ρ F a w ah ar=>⟨_,?_,rfl⟩
   have dF:=ar.str ((E x m1).trans hx);obtain⟨cE,cG,dG⟩:=Ij (P:=P) ar (Ea:=false) O h.1 (ao9 _) (fun y aC=>E y (m2 y aC)) (fun y aC=>E y (m3 y aC));rw[<-wJ s] at cE
   have U:(⟨s.toArray⟩:aF5).extract l bf=⟨((s.take bf).drop l).toArray⟩:=by
    have e:=Lib.extract_data ⟨s.toArray⟩ l bf
    cases aO:(⟨s.toArray⟩:aF5).extract l bf with
    |mk sx=>
     rw[aO] at e;simp only at e
     congr 1
     rw[<-Array.toArray_toList (xs:=sx),e,List.drop_take]
   rw[<-U];simp only[execOp,ai,as8,Instr.sliceAt,Instr.slice,run_underlying a8,ar0,dF,Option.map_none];simp only[Option.isSome_none,Bool.false_eq_true,if_false,as8,at8,ar0,cE]
  .exact h.elim
 .rename_i u xs hx
  split at h
  .rename_i e te l bf p U O;obtain⟨a8,c',ds,bv⟩:=oR bk U
   split at h
   .rename_i ax;have ax:=ap8 ax;refine cI.of h.2 <| bC.val fun K' B' E G C ρ F a w ah ar=>?_
    have H:=ar.cr ((E x m1).trans hx);have c1:=H;obtain⟨A,cap,bt,c3,gi,hM⟩:=c1;injection bt with bt
    rw[bt] at H;obtain⟨cE,cG,dG⟩:=Ij (P:=P) (w:=w) ar (Ea:=true) O h.1 c3 (fun y aC=>E y (m2 y aC)) (fun y aC=>E y (m3 y aC));refine⟨_,?_,XD H cG dG⟩;have aO:(sizeOf e).run P w= .ok (aR u) w:=by simp[sizeOf,typeInfo,bv.jW,bv.size,ax]
    simp only[execOp,ai,as8,Instr.sliceAt,Instr.slice,run_underlying a8,ar0,bt,Option.map_none,cE,aO,at8]
   .exact h.elim
  .exact h.elim
 .exact h.elim
def Oy {I:Nat->Prop} {w:aD8} {s:aD2} {v:aE7} (h:cw I w (.ce .u8) s (fun _=>some v)) (aZ: ∀b,I b->b < w.heap.size): ∃A c,v= .slice A s.length c/\px I w (.slice A s.length c) s:=by
 obtain⟨gz,E,G,ag⟩:=Om h aZ;have sB:=E;obtain⟨ak,A,c,rfl,_⟩:=E
 have e:gz=s.map hW:=by
  apply aw5;intro i;rw[ar1]
  cases ax:s[i]? with
  |none=>
   have:=List.getElem?_eq_none_iff.1 ax;rw[av7 (by rw[ak];simp[aR];exact this)];rfl
  |some x=>
   have:=G i x ax;have this:gz[i*aR .u8+0]? =some (.int .u8 (UInt8.toNat x:Int)):=this;simpa[aR,hW] using this
 subst e;exact⟨A,c,rfl,sB⟩
def XF (bk:d5 P aQ) {S T:aE4} {x:aE0} (ai:o.op= .convert S T x) (h:HU aQ S T (a1 K x) B k):cI P N ids o K B k:=by
 have m1:x∈o.op.operands:=aA4
 unfold HU at h
 split at h
 .rename_i NZ ti ax cq;obtain⟨i1,hA,yH⟩:=bk.at_ ax;obtain⟨i2,iY,sC⟩:=bk.at_ cq
  split at h
  .rename_i i j Ok n co cZ hx
   split at h
   .rename_i V _;have V:=nu V;subst V;refine cI.of h <| bC.one hx m1 fun K' ρ I a w ar af=>⟨_,?_,rfl⟩
    have ay:=ar.int af;have hw:IntKind.u8.wrap n=n % 256:=by simp[IntKind.wrap,IntKind.bits,IntKind.signed]
    simp[execOp,ai,ay,convert,run_underlying (yH.int co),run_underlying (sC.int cZ),Conv.intToInt,hw]
   .have h:=wC h;refine cI.of h.2 <| bC.one hx m1 fun K' ρ I a w ar af=>⟨_,?_,rfl⟩
    have ay:=ar.int af;simp[execOp,ai,ay,convert,run_underlying (yH.int co),run_underlying (sC.int cZ),Conv.intToInt,yA h.1]
  .rename_i e s co cZ hx
   split at h
   .rename_i a8;obtain⟨qw,_⟩:=wL bk a8;refine cI.of h.2 <| bC.new fun K' B' E G C ρ F a w ah ar=>?_
    have ay:=ar.str ((E x m1).trans hx);obtain⟨cap,cp,d1,O,fG⟩:=Wy (P:=P) w S T e ⟨s.toArray⟩ (yH.str co) (sC.ce cZ) qw (by rw[wJ];exact h.1);rw[wJ] at d1 O;refine⟨.slice (some ⟨w.heap.size,0,none⟩) s.length cap,cp,by simp only[execOp,ai,as8,ay,d1,ar0,at8],fG,fun I U aZ=>?_⟩;obtain⟨ak,A,c,af,al,bt,c3⟩:=O;injection af with af k0 XG
    subst af XG;have jp:s.length<=cap:=by simpa using al
    refine⟨_,cap,rfl,jp,bt,fun li=>?_⟩;have XH:0 < s.length:=li;obtain⟨b,q,yI,uY,br,J⟩:=c3 (by simpa using XH);refine⟨b,q,yI,aZ b uY br,fun i y aC=>?_⟩
    have aD:(List.map hW s)[i]? =some (hW y):=by
     rw[ar1];exact ap1 (Option.map hW) aC
    show cp.cell? ⟨b,q+(i*1+0),none⟩=some (hW y);rw[Nat.mul_one,aw0];exact J i _ aD
   .exact h.elim
  .rename_i e s co cZ hx
   split at h
   .rename_i a8;obtain⟨qw,_⟩:=wL bk a8;refine cI.of h <| bC.val fun K' B' E G C ρ F a w ah ar=>⟨_,?_,rfl⟩
    obtain⟨A,c,ay,O⟩:=Oy (ar.cr ((E x m1).trans hx)) (fun b O=>O.1);simp only[execOp,ai,as8,ay,NH O S T e (yH.ce co) qw (sC.str cZ),ar0,at8]
   .exact h.elim
  .rename_i e co cZ hx
   split at h
   .rename_i a8;obtain⟨qw,_⟩:=wL bk a8;refine cI.of h <| bC.one hx m1 fun K' ρ I a w ar af=>⟨_,?_,rfl⟩
    have ay:=ar.dc af;simp only[execOp,ai,as8,ay,run_convert_bytes_nil (P:=P) (w:=w) S e (yH.ce co) qw 0 0 T (sC.str cZ),ar0,at8];rfl
   .exact h.elim
  .rename_i e c co cZ hx
   split at h
   .rename_i ca s ak a8;obtain⟨qw,_⟩:=wL bk a8;refine cI.of h <| bC.val fun K' B' E G C ρ F a w ah ar=>⟨_,?_,rfl⟩
    have dP:=ah.holds c _ ((G c az9).trans ak);have H:=Ba dP (I':=fun b=>b < w.heap.size) (fun b O=>O.1) (fun b O=>(ah.own c _ ((G c az9).trans ak) b O).1);obtain⟨A,lF,ay,O⟩:=Oy H (fun b O=>O);have dF:=ar.own ((E x m1).trans hx);simp only[execOp,ai,as8,dF,ay,NH O S T e (yH.ce co) qw (sC.str cZ),ar0,at8]
   .exact h.elim
  .exact h.elim
 .exact h.elim
def XI (bk:d5 P aQ) {T:aE4} {x:aE0} {h5 aG:Option Operand} {c:Nat} (ai:o.op= .slice T x h5 aG none) (hx:a1 K x= .c (.one (.own c))) (h:match elemOf aQ T,ae B c with
   |some (_,te),some (.row _ u xs)=>match yv xs.length (h5.map (a1 K)) (aG.map (a1 K)),Nat.beq te.size (aR u) with
    |some (l,h,p),true=>p/\k (.c (.one (.os c (aR u) l (h - l)))) ⟨[c],[],[]⟩
    |_,_=>False
   |_,_=>False):cI P N ids o K B k:=by
 have m1:x∈o.op.operands:=aA4
 have m2: ∀y,h5=some y->y∈o.op.operands:=fun y aC=>by rw[ai];simp[Op.operands,aC]
 have m3: ∀y,aG=some y->y∈o.op.operands:=fun y aC=>by rw[ai];simp[Op.operands,aC]
 split at h
 .rename_i e te ca u xs U ak;obtain⟨a8,c',ds,bv⟩:=oR bk U
  split at h
  .rename_i l bf p O ax;have ax:=ap8 ax;refine cI.of h.2 <| bC.val fun K' B' E G C ρ F a w ah ar=>?_
   have dF:=ar.own ((E x m1).trans hx);obtain⟨_,_,cs,dP,_⟩:=ah.holds c _ ((G c az9).trans ak);obtain⟨_,A,cap,ay,hn,J,_⟩:=hy.sk dP;unfold bm.fa at ay dF;injection ay with af al bt
   rw[al] at dF;obtain⟨cE,cG,dG⟩:=Ij (P:=P) (w:=w) ar (Ea:=true) O h.1 (by rw[<-bt] at hn;exact hn:xs.length<=(ρ c).cap) (fun y aC=>E y (m2 y aC)) (fun y aC=>E y (m3 y aC));refine⟨_,?_,rfl⟩;have aO:(sizeOf e).run P w= .ok (aR u) w:=by simp[sizeOf,typeInfo,bv.jW,bv.size,ax]
   simp only[execOp,ai,as8,Instr.sliceAt,Instr.slice,run_underlying a8,ar0,dF,Option.map_none,cE,aO,at8]
  .exact h.elim
 .exact h.elim
end
end
section
section
variable {P:aD9} {aQ:df} {N:Nat} {ids:aD3} {o:Oper} {K:aW} {B:av} {k:aN->fb->Prop}
def XJ {c d:Nat} (h:aN.has d (.c (.one (.mp c)))=true):d=c:=(ap8 h).symm
def Eb (bk:d5 P aQ) {T kt et:Nat} (h:wF aQ T=some (kt,et)):P.underlying T=some (.map kt et):=by
 unfold wF at h
 split at h
 .rename_i ti gL
  split at h
  .rename_i k e Z;obtain⟨_,_,bv⟩:=bk.at_ gL;injection h with h
   injection h with E G
   subst E G;have:=bv.kd;rw[Z] at this;rw[bv.nv]
   cases H:‹TypeDesc› <;>simp[H,sv] at this⊢
   exact this
  .cases h
 .cases h
def Im (bk:d5 P aQ) {kt:Nat} {aI:bz} (h:wH aQ kt aI=true): ∃d,P.underlying kt=some d/\mG aI d=true:=by
 unfold wH at h
 split at h
 .rename_i ti gL;obtain⟨_,_,bv⟩:=bk.at_ gL
  split at h
  .rename_i k d4 Z;have:=nu h;subst this;exact⟨_,bv.int Z,by simp[mG]⟩
  .rename_i Z;exact⟨_,bv.str Z,rfl⟩
  .cases h
 .cases h
def Ec: ∀u:bz,n3 u (cM u)
 | .int _=>trivial
 | .u8=>trivial
 | .bool=>trivial
 | .str=>trivial
 | .aM=>trivial
 | .dd=>trivial
 | .fn=>trivial
 | .ce _=>trivial
 | .bT u v=>⟨Ec u,Ec v⟩
 | .arr n u=>⟨aq7,fun x hx=>by
  have e:x=cM u:=List.eq_of_mem_replicate hx;rw[e];exact Ec u⟩
def XK {ρ:Nat->bm} {I:Nat->Prop} {w:aD8} {s:bw} {x:D} {v:aE7} (h:DQ s x=true) (ay:dU ρ I w s v):gA I w x v:=by
 unfold DQ at h
 split at h
 .simp only[ao8,as1] at h;obtain⟨E,G⟩:=h;have:=nu E;subst this G;exact ay
 .exact ay
 .exact ay
 .exact ay
 .rename_i b c;have:b=c:=aA6
  subst this;exact ay
 .rw[show v=_ from ay];exact⟨none,0,rfl,ao9 _,ap9 _,fun h=>ap0 h (az5 0)⟩
 .cases h
def Oz: ∀{l m:List bw},ik l m=true->l.length=m.length
 | [],[],_=>rfl
 |s::l,.d x::m,h=>by
  simp only[ik,ao8] at h;simp[Oz h.2]
 | [],_::_,h=>by simp[ik] at h
 |_::_,[],h=>by simp[ik] at h
 |_::_,.ptr _ _::_,h=>by simp[ik] at h
 |_::_,.own _::_,h=>by simp[ik] at h
 |_::_,.el _ _ _::_,h=>by simp[ik] at h
 |_::_,.fX _ _ _ _::_,h=>by simp[ik] at h
 |_::_,.os _ _ _ _::_,h=>by simp[ik] at h
 |_::_,.mp _::_,h=>by simp[ik] at h
 |_::_,.cW _ _::_,h=>by simp[ik] at h
 |_::_,.dc::_,h=>by simp[ik] at h
 |_::_,.bH _::_,h=>by simp[ik] at h
 |_::_,.any::_,h=>by simp[ik] at h
def OA: ∀{l m:List bw},ik l m=true-> ∀(i:Nat) (y:bw),m[i]? =some y-> ∃s x,l[i]? =some s/\y= .d x/\DQ s x=true
 | [],[],_,i,y,aC=>by simp at aC
 |s::l,.d x::m,h,0,y,aC=>by
  simp only[ik,ao8] at h;simp only[aq2,ap5] at aC;exact⟨s,x,rfl,aC.symm,h.1⟩
 |s::l,.d x::m,h,i+1,y,aC=>by
  simp only[ik,ao8] at h;simpa using OA h.2 i y (by simpa using aC)
 | [],_::_,h,_,_,_=>by simp[ik] at h
 |_::_,[],h,_,_,aC=>by simp at aC
 |_::_,.ptr _ _::_,h,_,_,_=>by simp[ik] at h
 |_::_,.own _::_,h,_,_,_=>by simp[ik] at h
 |_::_,.el _ _ _::_,h,_,_,_=>by simp[ik] at h
 |_::_,.fX _ _ _ _::_,h,_,_,_=>by simp[ik] at h
 |_::_,.os _ _ _ _::_,h,_,_,_=>by simp[ik] at h
 |_::_,.mp _::_,h,_,_,_=>by simp[ik] at h
 |_::_,.cW _ _::_,h,_,_,_=>by simp[ik] at h
 |_::_,.dc::_,h,_,_,_=>by simp[ik] at h
 |_::_,.bH _::_,h,_,_,_=>by simp[ik] at h
 |_::_,.any::_,h,_,_,_=>by simp[ik] at h
def XL (bk:d5 P aQ) {et:Nat} {aK:bz} (h:DR aQ et aK=true) {I:Nat->Prop} {w:aD8}: ∃aF,(zeroValue et).run P w= .ok aF w/\jn I w aK (cM aK) aF:=by
 unfold DR at h
 split at h
 .rename_i ti gL;obtain⟨i,d,bv⟩:=bk.at_ gL;simp only[ao8,beq_iff_eq,au3] at h;obtain⟨⟨E,G⟩,ag⟩:=h;obtain⟨aF,aO,oh⟩:=bv.zero;have H:=(u7 (ρ:=fun _=>⟨0,none,0,0⟩) (I:=I) (w:=w) _ _ oh).1;have ak:=cb.length _ _ H;have pB:ti.zero.length=aR aK:=(Oz E).trans (sy aK _ _ _)
  have ax:aF.cells.size=aR aK:=by
   rw[<-pB,<-ak];simp
  refine⟨aF,by simp[zeroValue,typeInfo,bv.jW,aO],ax,⟨fun ai=>?_,fun ai=>?_⟩,cw.mk _ _ _ (Ec aK) fun j V=>?_⟩
  .refine bv.N8 aF aO ?_;rw[bv.row,G,ai];rfl
  .have:2<=aR aK:=by
    rcases ag with ag |ag
    .rw[ai] at ag;cases ag
    .exact aw2 ag
   cases aF with
   |agg cs=>exact⟨cs,rfl⟩
   |_=>simp[Value.cells] at ax;omega
  .have aV:=yE aK (cM aK) (aR aK) 0 j V;rw[at5] at aV;obtain⟨s,x,af,al,bt⟩:=OA E j _ aV;injection al with al
   obtain⟨v,c3,gi⟩:=cb.get _ _ H j s af;exact⟨v,c3,by rw[al];exact XK bt gi⟩
 .cases h
def OB {ρ:Nat->bm} {I:Nat->Prop} {w:aD8} {u:bz} {x:aa u} {v:aE7} (ai:mE u=true) (h:jn I w u x v):dU ρ I w (.d (fq u x 0)) v:=by
 obtain⟨E,G,ag⟩:=h;have J:=G.1 ai;have li:0 < aR u:=by rw[<-E,J];simp
 obtain⟨dp,af,al⟩:=cw.cell u x _ 0 ag li;rw[J] at af;simp at af;subst af;exact al
def OC {ρ:Nat->bm} {I:Nat->Prop} {w:aD8} {u:bz} {x:aa u} {v:aE7} (ai:mE u=false) (h:jn I w u x v):gu ρ I w (.agg (fE u x 0 (aR u))) v:=by
 obtain⟨E,G,ag⟩:=h;obtain⟨cs,e⟩:=G.2 ai;subst e;obtain⟨aB,g1,g2⟩:=D4 (ρ:=ρ) ag (aR u) 0 az7;have ak:=cb.length _ _ g1;rw[sy] at ak
 have e:aB=cs.toList:=by
  apply aw5;intro j
  by_cases V:j < aB.length
  .obtain⟨v,ay⟩: ∃v,aB[j]? =some v:=⟨_,ao7 V⟩;have:=g2 j v ay;rw[ay,<-this];simp[Value.cells]
  .rw[av7 az7,av7 (by simp[Value.cells] at E;simp;omega)]
 subst e;exact⟨_,az9,g1⟩
def Ed {ρ:Nat->bm} {I:Nat->Prop} {w:aD8} {u:bz} {x:aa u} {v:aE7} (h:jn I w u x v):gu ρ I w (yw u x) v:=by
 cases u with
 |bT u v=>exact OC rfl h
 |arr n u=>exact OC rfl h
 |_=>exact OB (ρ:=ρ) rfl h
def XM {ρ:Nat->bm} {I:Nat->Prop} {w:aD8} {u:bz} {s:aN} {y:aa u} {p:Option Prop} (h:HZ u s=some (y,p)) (ao:tx p) {v:aE7} (ay:cv ρ I w s v):jn I w u y v:=by
 unfold HZ at h
 split at h
 .rename_i dp y'
  split at h
  .rename_i rv _ ai;subst rv;injection h with h
   injection h with E G
   subst E G;obtain⟨aB,e,E,G⟩:=ay;subst e;exact⟨by simpa[Value.cells] using E,⟨fun e=>(by rw[ai] at e;cases e),fun _=>⟨_,rfl⟩⟩,by simpa[Value.cells,HE] using G⟩
  .cases h
 .rename_i s'
  split at h
  .rename_i y' jY ai H;injection h with h
   injection h with E G
   subst E G;obtain⟨nw,sz,af,al,bt,c3,gi⟩:=yF u ρ I w _ _ _ _ H ao [v] ⟨v,[],rfl,ay,rfl⟩;rw[show sz=[] from c3,at3] at af;subst af
   have J:v.cells= #[v]:=by
    have:=gi v az9
    cases v <;>first |rfl |(simp[Value.oneCell'] at this)
   refine⟨by rw[J,<-al];rfl,⟨fun _=>J,fun e=>(by rw[ai] at e;cases e)⟩,by rw[J];exact bt⟩
  .cases h
 .rename_i l
  split at h
  .rename_i y' jY ai H;injection h with h
   injection h with E G
   subst E G;obtain⟨aB,e,ay⟩:=ay;subst e;obtain⟨nw,sz,af,al,bt,c3,gi⟩:=yF u ρ I w _ _ _ _ H ao aB ay;rw[show sz=[] from c3,at3] at af;subst af;exact⟨by simpa[Value.cells] using al,⟨fun e=>(by rw[ai] at e;cases e),fun _=>⟨_,rfl⟩⟩,by simpa[Value.cells] using bt⟩
  .cases h
 .cases h
def Bd {ρ:Nat->bm} {I:Nat->Prop} {w:aD8} {aI:bz} {s:aN} {key:aa aI} (h:wG aI s=some key) {v:aE7} (ay:cv ρ I w s v):v=gI aI key:=by
 unfold wG at h
 split at h
 .split at h
  .rename_i e;have:=nu e;injection h with h
   subst this h;exact ay
  .cases h
 .injection h with h
  subst h;exact ay
 .cases h
def eh.mp {K':aW} {ρ:Nat->bm} {I:Nat->Prop} {a:Act} {w:aD8} {x:aE0} (ar:eh K' ρ I a w) {c:Nat} (h:a1 K' x= .c (.one (.mp c))):a.eval x= .map (some (ρ c).bh):=ar.ev h
def XN (bk:d5 P aQ) {T:aE4} {x i:aE0} {ok:Bool} (ai:o.op= .lookup T x i ok) (h:HY aQ T (a1 K x) (a1 K i) ok B k):cI P N ids o K B k:=by
 have m1:x∈o.op.operands:=aA4
 have m2:i∈o.op.operands:=aA4
 unfold HY at h
 split at h
 .rename_i c hx
  split at h
  .rename_i aI aK es ak
   split at h
   .rename_i kt et key b4 Z
    have rt: ∀(v:aN),(wH aQ kt aI&&DR aQ et aK)=true->(∀(ρ:Nat->bm) (I:Nat->Prop) (w:aD8) (u:aE7),jn I w aK ((bV es key).getD (cM aK)) u->cv ρ I w v (if ok then .tuple #[u,.bool (bV es key).isSome] else u))->bC P N ids o K B v ⟨[c],[],[]⟩:=by
     intro v bv ay;simp only[ao8] at bv;obtain⟨d,wO,kL⟩:=Im bk bv.1;refine bC.val fun K' B' g1 g2 C ρ F a w ah ar=>?_
     obtain⟨bj,bP,bU,O,aD,dh⟩:=ah.holds c _ ((g2 c az9).trans ak);obtain⟨aF,aO,yo⟩:=XL bk bv.2 (I:=bX C B' F w) (w:=w);obtain⟨u,aw,a8⟩:=NP (P:=P) (Eb bk b4) wO kL O aD aO yo key ok;have af:=ar.mp ((g1 x m1).trans hx);have al:a.eval i=gI aI key:=Bd Z (ar.ev (g1 i m2));exact⟨_,by simp only[execOp,ai,as8,af,al,aw,ar0,at8],ay ρ _ w u a8⟩
    split at h
    .rename_i bv;rw[DD] at h;refine cI.of h (rt _ bv fun ρ I w u a8=>?_);exact⟨[u,.bool (bV es key).isSome],rfl,u,_,rfl,Ed a8,_,_,rfl,rfl,rfl⟩
    .rename_i bv;rw[DD] at h;exact cI.of h (rt _ bv fun ρ I w u a8=>Ed a8)
    .exact h.elim
   .exact h.elim
  .exact h.elim
 .exact h.elim
def tL {w:aD8} {b:Nat} {mb:Obj} {S:Nat->Prop} (ar:S b):cR S w {w with heap:=w.heap.setIfInBounds b mb}:=
 ⟨rfl,rfl,rfl,az9,fun j _ hn=>by simp only[];rw[av6 (fun e=>hn (by rw[<-e];exact ar))]⟩
def XO (bk:d5 P aQ) {T:aE4} {x i v:aE0} (ai:o.op= .mapUpdate T x i v) (h:H0 aQ T (a1 K x) (a1 K i) (a1 K v) B k):cI P N ids o K B k:=by
 have m1:x∈o.op.operands:=aA4
 have m2:i∈o.op.operands:=aA4
 have m3:v∈o.op.operands:=aA4
 unfold H0 at h
 split at h
 .rename_i c hx
  split at h
  .rename_i aI aK es ak
   split at h
   .rename_i kt et key b4 Z
    have rt: ∀y:aa aK,wH aQ kt aI=true->(∀(ρ:Nat->bm) (I:Nat->Prop) (w:aD8) (u:aE7),cv ρ I w (a1 K v) u->jn I w aK y u)->bC P N ids o K B .undef ⟨[c],[],[(c,some (.map aI aK (dw es key y)))]⟩:=fun y bv ay=>by
     obtain⟨d,wO,kL⟩:=Im bk bv;refine bC.hz ak fun K' B' g1 C ρ F a w ah ar gh=>?_
     obtain⟨bj,bP,bU,O,aD,dh⟩:=ah.holds c _ gh;have af:=ar.mp ((g1 x m1).trans hx);have al:a.eval i=gI aI key:=Bd Z (ar.ev (g1 i m2));have bt:jn _ _ aK y (a.eval v):=ay _ _ _ _ (ar.ev (g1 v m3));obtain⟨eK,jE,aw,gj,pC⟩:=AW (P:=P) (Eb bk b4) wO kL O aD dh key bt;have br:=(ax2.1 O).1;refine⟨{w with heap:=w.heap.setIfInBounds (ρ c).bh (.map (List.toArray eK) jE)},by simp only[execOp,ai,as8,af,al,aw,ar0,at8],tL ((bj _).2 rfl),fun I a2=>⟨bj,eK,jE,by simp[br],gj.mono a2,pC⟩⟩
    split at h
    .rename_i y p bv ay;exact cI.of h.2 (rt y bv fun ρ I w u a8=>XM ay h.1 a8)
    .rename_i bv _
     split at h
     .rename_i l ay tG;obtain⟨y,⟨hw,gh⟩,h⟩:=h;refine cI.of h (rt y bv fun ρ I w u a8=>?_);rw[ay] at a8;obtain⟨aB,e,H⟩:=a8;subst e gh;exact⟨by simpa[Value.cells,sy] using cb.length _ _ H,⟨fun e=>(by rw[tG] at e;cases e),fun _=>⟨_,rfl⟩⟩,by simpa[Value.cells] using A8 hw H⟩
     .exact h.elim
    .exact h.elim
   .exact h.elim
  .exact h.elim
 .exact h.elim
def bC.OD {c:Nat} {cA ch:ba} (J:ae B c=some cA)
  (h: ∀(K':aW) (B':av),(∀x,x∈o.op.operands->a1 K' x=a1 K x)-> ∀(C:eZ) (ρ:Nat->bm) (F:Nat->Nat->Prop) (a:Act) (w:aD8),Mem ids C B' ρ F w->eh K' ρ (bX C B' F w) a w->ae B' c=some cA-> ∃w',(execOp a.eval o).run P w= .ok (.value (.tuple #[])) w'/\cR (F c) w w'/\
   (∀I,cj (bX C B' F w) w I w'->Holds ρ I (F c) w' (ρ c) ch)):
  bC P N ids o K B (.cm []) ⟨[c],[],[(c,some ch)]⟩:=by
 rintro K' B' E G - C a w ⟨hn,H,ρ,F,ah,ar⟩ br fF Q cT;have c0:ae B' c=some cA:=(G c az9).trans J;obtain⟨w',hx,cC,c9⟩:=h K' B' E C ρ F a w ah ar c0;obtain⟨bK,U⟩:=ah.hz c0 cC c9;unfold Oper.wp;rw[hx,Oper.upon_value];exact cT _ _ ⟨kf.trans hn,kg.trans H,ρ,F,bK,(ar.mono U fun _ _ _=>rfl).kh (fun e U=>by rw[hn];exact br e U) ⟨[],rfl,rfl⟩⟩
def XP (bk:d5 P aQ) {T eL:aE4} {x i:aE0} {c:Call} (ai:o.op= .call c) (e2:c.callee= .builtin .delete) (fw:c.args.toList=[x,i]) (lj:c.argTypes.toList=[T,eL]) (h:H1 aQ T (a1 K x) (a1 K i) B k):cI P N ids o K B k:=by
 have fk:c.args= #[x,i]:=au5.1 fw;have jq:c.argTypes= #[T,eL]:=au5.1 lj;obtain⟨rx,args,ct⟩:=c;simp only at e2 fk jq;subst e2 fk jq;have m1:x∈o.op.operands:=aA8
 have m2:i∈o.op.operands:=aA8
 unfold H1 at h
 split at h
 .rename_i c hx
  split at h
  .rename_i aI aK es ak
   split at h
   .rename_i kt et key b4 Z
    split at h
    .rename_i bv;obtain⟨d,wO,kL⟩:=Im bk bv;refine cI.of h <| bC.OD ak fun K' B' g1 C ρ F a w ah ar gh=>?_
     obtain⟨bj,bP,bU,O,aD,dh⟩:=ah.holds c _ gh;have af:=ar.mp ((g1 x m1).trans hx);have al:a.eval i=gI aI key:=Bd Z (ar.ev (g1 i m2));obtain⟨eK,aw,gj,pC⟩:=NV (P:=P) (ty:=o.type) (Eb bk b4) wO kL O aD dh key eL;have br:=(ax2.1 O).1;refine⟨{w with heap:=w.heap.setIfInBounds (ρ c).bh (.map (List.toArray eK) bU)},?_,tL ((bj _).2 rfl),fun I a2=>⟨bj,eK,bU,by simp[br],gj.mono a2,pC⟩⟩;simp[execOp,ai,resolve,invoke,builtin,af,al,aw]
    .exact h.elim
   .exact h.elim
  .exact h.elim
 .exact h.elim
def lE.arr {T:Nat} {ti:b5} {i:aF2} {d:aF3} (h:lE P T ti i d) {n e:Nat} (Z:ti.kd= .arr n e):P.underlying T=some (.array n e):=by
 have:=h.kd;rw[Z] at this;rw[h.nv]
 cases d <;>simp[sv] at this⊢
 exact this
def XQ (bk:d5 P aQ) {T:aE4} {x:aE0} (ai:o.op= .sliceToArrayPointer T x) (h:H4 aQ T (a1 K x) k):cI P N ids o K B k:=by
 have m1:x∈o.op.operands:=aA4
 unfold H4 at h
 split at h
 .rename_i ti v xs gL hx;obtain⟨i,d,bv⟩:=bk.at_ gL
  split at h
  .rename_i n e Z;obtain⟨⟨au,hh⟩,h⟩:=h;have a8:=bv.arr Z;refine cI.of h <| bC.one hx m1 fun K' ρ I a w ar af=>?_
   obtain⟨A,cap,bt,c3,gi,hM⟩:=ar.cr af;injection bt with bt
   obtain⟨b,q,rfl,aZ,H⟩:=hM az7;refine⟨.pointer (some ⟨b,q,none⟩),?_,b,q,rfl,aZ,by simp;omega,fun i aF aO=>?_⟩
   .have: ¬List.length xs < n:=aA5
    simp[execOp,ai,bt,Instr.arrayAt,run_underlying a8,this]
   .have qx:fi (α:=aa v) xs i=some aF:=by
     unfold fi at aO⊢;rw[au4] at aO
     split at aO
     .exact aO
     .cases aO
    exact H i aF qx
  .exact h.elim
 .exact h.elim
def XR (bk:d5 P aQ) {T:aE4} {x:aE0} {c:Nat} (ai:o.op= .slice T x none none none) (hx:a1 K x= .c (.one (.ptr c 0))) (h:H3 aQ T c B k):cI P N ids o K B k:=by
 have m1:x∈o.op.operands:=aA4
 unfold H3 at h
 split at h
 .rename_i ti gL;obtain⟨i,d,bv⟩:=bk.at_ gL
  split at h
  .rename_i n e m v Z _;have a8:=bv.arr Z
   split at h
   .rename_i te l hn u9 ak;simp only[ao8,Nat.beq_eq,Nat.ble_eq,Nat.blt_eq] at hn;obtain⟨⟨_,km⟩,wM⟩:=hn;obtain⟨wI,In,XS⟩:=bk.at_ u9;obtain⟨ys,⟨hw,gh⟩,h⟩:=h;refine cI.of h ?_;rintro K' B' E G - C a w ⟨ry,sA,ρ,F,ah,ar⟩ br fF Q cT;have Io:ae B' c=some (.cells l):=(G c az9).trans ak;obtain⟨bj,aB,eL,O,H⟩:=ah.holds c _ Io;have af:=ar.ptr ((E x m1).trans hx);subst gh;have XT:=A8 hw H;have a6:n≠0:=aA5
    have d1:(execOp a.eval o).run P w= .ok (.value (.slice (some ⟨(ρ c).bh,0,none⟩) n n)) w:=by
     simp[execOp,ai,af,Instr.sliceAt,run_underlying a8,Instr.sureAddr,Instr.sliceBounds,sizeOf,typeInfo,XS.jW,a6,qi]
    obtain⟨bK,a2⟩:=ah.step (B':=gJ B' c) (ρ':=ρ) (F':=F) (w':=w) (fun d=>d=c) (fun _=>False) (cR.refl _ w) (fun d ch H a6=>by
      rw[hg,mu (fun e=>a6 e.symm)] at H;exact H) (fun _ _=>rfl) (fun _ _=>rfl) (fun _ _ h=>h) (fun _ h=>h.elim) (fun _ _ _ _ _ _ h=>h)
     (fun d ch H ah _=>by subst ah;rw[hg,vj rfl] at H;cases H)
     (fun d ch H ah=>by subst ah;rw[hg,vj rfl] at H;cases H)
     (fun d cY ch ch' b H _ ah=>by subst ah;rw[hg,vj rfl] at H;cases H)
    have mc:=(bj (ρ c).bh).2 rfl
    have aZ:bX C (gJ B' c) F w (ρ c).bh:=by
     obtain⟨cE,cG⟩:=ah.own c _ Io _ mc;refine⟨cE,?_,fun d ch H c7=>?_⟩
     .rcases cG with cG |cG
      .exact .inr (.inl cG)
      .exact .inr (.inr cG)
     .rw[hg] at H
      split at H
      .cases H
      .rename_i a6;exact ah.e0 c d _ ch _ Io H a6 mc c7
    unfold Oper.wp;rw[d1,Oper.upon_value];refine cT _ _ ⟨kf.trans ry,kg.trans sA,ρ,F,bK,(ar.mono a2 fun _ _ _=>rfl).kh (fun e U=>by rw[ry];exact br e U) ?_⟩;have bZ:List.length ys=n:=hw.1;refine⟨_,n,by rw[bZ],az7,by simp only[maxLen];omega,fun _=>⟨_,0,rfl,aZ,fun j aF aO=>?_⟩⟩;refine cw.mono a2 v aF _ _ (fun q y aY=>?_) (XT.2 j aF aO);rw[at5];exact od O aY
   .exact h.elim
  .exact h.elim
 .exact h.elim
def XU (bk:d5 P aQ) {T:aE4} (ai:o.op= .makeMap T none) (h:H2 aQ T o.dst ids K B k):cI P N ids o K B k:=by
 unfold H2 at h
 split at h
 .rename_i kt et d b4 H
  split at h
  .rename_i N0 wI aoi aoj
   split at h
   .rename_i aI aK _ _;refine cI.bb h.2 h.1 <| bC.make (fun d h=>XJ h) fun K' B' g1 g2 C ρ F a w ah ar hn=>?_
    refine⟨.map (some w.heap.size),w.alloc (.map #[] 0),⟨w.heap.size,none,0,0⟩,fun b=>b=w.heap.size,by simp only[execOp,ai,Option.map_none,as8,WO,ar0,at8],uZ w _,fun b O=>by subst O;exact⟨ao9 _,az9⟩,fun I U O=>⟨⟨fun b=>Iff.rfl,[],0,Hv _ rfl,rfl,⟨az9,fun e U=>by cases U⟩⟩,?_⟩⟩;simp only[cv,gu,dU,dr]
   .exact h.elim
  .exact h.elim
 .exact h.elim
end
end
section
section
variable {P:aD9} {aQ:df} {N:Nat} {ids:aD3} {o:Oper} {K:aW} {B:av} {k:aN->fb->Prop}
def XV {w:aD8} (t e:aE4) (cq:P.underlying t=some (.slice e)) {i:aF2} (aG:P.info? e=some i) {aF:aE7} (aO:i.zero=some aF) (yJ:aF.cells= #[.int .u8 0]) (ax:i.size=1) (O:i.bytes=1) (n:Nat) (hn:n<=4294967296):
  (Instr.makeSlice t (.int .i64 (n:Int)) (.int .i64 (n:Int))).run P w= .ok (.slice (some ⟨w.heap.size,0,none⟩) n n) (w.alloc (.cells (List.replicate n (.int .u8 0)).toArray e)):=by
 have h:=run_make (P:=P) w t e i _ cq aG aO .i64 .i64 (n:Int) (n:Int) az7 az7 (by rw[O];omega) az7;rw[h,ax,yJ];simp only[ax9,Nat.mul_one]
 congr 3
 simp[madeCells];apply Array.ext
 .simp
 .intro i E G;simp[Nat.mod_one]
def OE {ti:b5} {T:Nat} {i:aF2} {d:aF3} (bv:lE P T ti i d) (aO:ti.zero=[.d (.int .u8 0)]): ∃aF,i.zero=some aF/\aF.cells= #[.int .u8 0]:=by
 obtain⟨aF,E,G⟩:=bv.zero;refine⟨aF,E,?_⟩;rw[aO] at G
 have:aF.cells.toList=[.int .u8 0]:=by
  match J:aF.cells.toList,G with
  | [v],G=>
   simp only[sw,Bool.and_true] at G;have:=(Ou (ρ:=fun _=>⟨0,none,0,0⟩) (I:=fun _=>False) (w:=default) G).1;rw[show v=_ from this]
  | [],G=>simp[sw] at G
  |_::_::_,G=>simp[sw] at G
 exact au5.1 this
def XW (bk:d5 P aQ) {T:aE4} {x y:aE0} (ai:o.op= .makeSlice T x y) (h:match elemOf aQ T,a1 K x,a1 K y,o.dst with
  |some (e,te),.c (.one (.d (.int .i64 n))),.c (.one (.d (.int .i64 m))),some d=>match qr aQ e with
   |true=>(n=m/\0<=n/\n<=4294967296)/\gS ids K B d=true/\k (.c (.one (.own d))) ⟨[],[d],[(d,some (.row e .u8 (List.replicate n.toNat (0:UInt8))))]⟩
   |false=>False
  |_,_,_,_=>False):cI P N ids o K B k:=by
 have m1:x∈o.op.operands:=aA4
 have m2:y∈o.op.operands:=aA4
 split at h
 .rename_i e te n m d U hx aC H;obtain⟨a8,c',ds,bv⟩:=oR bk U
  split at h
  .rename_i qw;obtain⟨qw,ti,i2,iY,rz,sD,f0,iZ⟩:=wL bk qw;obtain⟨aF,aO,yJ⟩:=OE rz sD;obtain⟨⟨rfl,au,E⟩,cC,h⟩:=h;refine cI.bb h cC <| bC.make (fun d h=>Bc h) fun K' B' g1 g2 C ρ F a w ah ar hn=>?_
   have dF:=ar.int ((g1 x m1).trans hx);have d2:=ar.int ((g1 y m2).trans aC);have d1:=XV (P:=P) (w:=w) T e a8 rz.jW aO yJ (rz.size.trans f0) (rz.bytes.trans iZ) n.toNat az7;rw[show((n.toNat:Nat):Int)=n by omega] at d1;refine⟨.slice (some ⟨w.heap.size,0,none⟩) n.toNat n.toNat,w.alloc (.cells (List.replicate n.toNat (.int .u8 0)).toArray e),⟨w.heap.size,some ⟨w.heap.size,0,none⟩,n.toNat,n.toNat⟩,fun b=>b=w.heap.size,?_,uZ w _,fun b O=>by subst O;exact⟨ao9 _,az9⟩,fun I U O=>⟨⟨?_,?_,List.replicate n.toNat (.int .u8 0),?_,?_⟩,?_⟩⟩
   .simp only[execOp,ai,as8,dF,d2,d1,ar0,at8]
   .intro b;simp[bm.fa,Value.ownBlock,eq_comm]
   .intro b O;simp[bm.fa,Value.ownBlock] at O;exact O.symm
   .have:=D' w e 1 n.toNat (List.replicate n.toNat (.int .u8 0)) az9 (by simp only[maxLen];omega);have af:List.length (α:=aa .u8) (List.replicate n.toNat (0:UInt8))=n.toNat:=aq7;rw[af];exact this
   .intro i aF aO;obtain⟨aG,qx⟩:=ap6.1 aO;have sD:aF=(0:UInt8):=by rw[<-qx];exact List.getElem_replicate ..
    have aG:i < n.toNat:=by
     have af:List.length (α:=aa .u8) (List.replicate n.toNat (0:UInt8))=n.toNat:=aq7;rw[af] at aG;exact aG
    subst sD;show(List.replicate n.toNat (Value.int .u8 0))[i*1+0]? =some (Value.int .u8 ((0:UInt8).toNat:Int));rw[Nat.mul_one,aw0,ax0,vj aG];rfl
   .simp only[cv,gu,dU,dr,bm.fa]
  .exact h.elim
 .exact h.elim
def Ee {w:aD8} {e s n:Nat} {v:aE7} {cs:aD7} (h:w.ownsRow 0 e s v n cs): ∃pl:bm,pl.fa=v/\ ∀b,v.ownBlock=some b->b=pl.bh:=by
 rcases h.2 with⟨rfl,_⟩ |⟨g,cap,fW,rfl,_⟩
 .exact⟨⟨0,none,0,0⟩,rfl,fun b O=>by cases O⟩
 .exact⟨⟨g,some ⟨g,0,none⟩,n,cap⟩,rfl,fun b O=>by simp[Value.ownBlock] at O;exact O.symm⟩
def XX (bk:d5 P aQ) {T:aE4} {x y:aE0} {c:Call} {e:Nat} {te:b5} {u:bz} (ai:o.op= .call c) (e2:c.callee= .builtin .append) (fw:c.args.toList=[x,y]) (lj:c.argTypes.toList=[T,T]) (U:elemOf aQ T=some (e,te)) (a8:te.u=some u)
  {a:Act} {w:aD8} {v:aE7} {n m:Nat} {cs gz:aD7} {D:Nat->Prop} (hx:a.eval x=v) (dP:w.ownsRow 0 e (aR u) v n cs) (E:hy D w (aR u) (a.eval y) m gz) (ag: ∀x∈gz,x.oneCell'=true) (hn:n+m<=4294967296):
  ∃dp w',(execOp a.eval o).run P w= .ok (.value dp) w'/\w'.ownsRow 0 e (aR u) dp (n+m) (cs++gz)/\w.grownBy w' v.ownBlock/\(dp.ownBlock=v.ownBlock\/dp.ownBlock=some w.heap.size):=by
 obtain⟨b4,c',ds,bv⟩:=oR bk U;obtain⟨aF,aO,oh⟩:=bv.zero;have cL:aR u=c'.size:=(bv.u u a8).trans bv.size.symm
 have qj:aF.cells.size=c'.size:=by
  have E:=cb.length _ _ (u7 (ρ:=fun _=>⟨0,none,0,0⟩) (I:=fun _=>False) (w:=w) _ _ oh).1;simp at E;rw[E,bv.Ia,bv.size]
 have li:0 < c'.size:=by have:=bv.pos;have:=bv.size;omega
 have wv:(n+m)*c'.bytes<=140737488355328:=by
  have E:c'.bytes<=32768:=by rw[bv.bytes];exact bv.N7
  exact av9 (au6 hn E) az8
 obtain⟨dp,w',d1,g1,g2,cX⟩:=Ht (P:=P) w 0 T o.type e c' aF (aR u) c'.bytes b4 bv.jW aO cL.symm rfl (by rw[qj,cL]) (by rw[cL];exact li) v n cs dP D (a.eval y) m gz E ag (by simp only[maxLen];omega) wv (ap9 _);refine⟨dp,w',?_,g1,g2,cX⟩;have fk:c.args= #[x,y]:=au5.1 fw;have jq:c.argTypes= #[T,T]:=au5.1 lj;obtain⟨rx,args,ct⟩:=c;simp only at e2 fk jq;subst e2 fk jq;unfold execOp;simp only[ai,resolve,invoke,builtin,as8,at8,ar0,List.map_toArray,aq5,ay9,hx,d1]
def XY {I:Nat->Prop} {w:aD8} {u:bz} {xs:List (aa u)} {cs:aD7} (ak:cs.length=xs.length*aR u) (h:he I w u xs cs): ∀v∈cs,v.oneCell'=true:=fun v ay=>by
 obtain⟨k,Z,rfl⟩:=aw4 ay;obtain⟨af,al,bt⟩:=Hw (show k < xs.length*aR u by omega);obtain⟨dp,E,G⟩:=cw.one u _ _ (h (k/aR u) _ (ao7 af)) (k % aR u) al;rw[bt,ao7 Z] at E;injection E with E
 rw[E];exact G
def OF (bk:d5 P aQ) {T:aE4} {x y:aE0} {c:Call} {e:Nat} {te:b5} {u:bz} (ai:o.op= .call c) (e2:c.callee= .builtin .append) (fw:c.args.toList=[x,y]) (lj:c.argTypes.toList=[T,T]) (U:elemOf aQ T=some (e,te)) (a8:te.u=some u)
  {a:Act} {w:aD8} {v:aE7} {n:Nat} {cs:aD7} {I:Nat->Prop} {ys:List (aa u)} (hx:a.eval x=v) (dP:w.ownsRow 0 e (aR u) v n cs) (aC:cw I w (.ce u) ys (fun _=>some (a.eval y))) (aZ: ∀b,I b->b < w.heap.size) (hn:n+ys.length<=4294967296):
  ∃dp w' gz,(execOp a.eval o).run P w= .ok (.value dp) w'/\w'.ownsRow 0 e (aR u) dp (n+ys.length) (cs++gz)/\he I w u ys gz/\w.grownBy w' v.ownBlock/\(dp.ownBlock=v.ownBlock\/dp.ownBlock=some w.heap.size):=by
 obtain⟨b4,c',ds,bv⟩:=oR bk U;obtain⟨aF,aO,oh⟩:=bv.zero;obtain⟨gz,E,G,ag⟩:=Om aC aZ;have cL:aR u=c'.size:=(bv.u u a8).trans bv.size.symm
 have qj:aF.cells.size=c'.size:=by
  have E:=cb.length _ _ (u7 (ρ:=fun _=>⟨0,none,0,0⟩) (I:=fun _=>False) (w:=w) _ _ oh).1;simp at E;rw[E,bv.Ia,bv.size]
 have li:0 < c'.size:=by have:=bv.pos;have:=bv.size;omega
 have wv:(n+ys.length)*c'.bytes<=140737488355328:=by
  have E:c'.bytes<=32768:=by rw[bv.bytes];exact bv.N7
  exact av9 (au6 hn E) az8
 obtain⟨dp,w',d1,g1,g2,cX⟩:=Ht (P:=P) w 0 T o.type e c' aF (aR u) c'.bytes b4 bv.jW aO cL.symm rfl (by rw[qj,cL]) (by rw[cL];exact li) v n cs dP I (a.eval y) ys.length gz E ag (by simp only[maxLen];omega) wv (ap9 _);refine⟨dp,w',gz,?_,g1,G,g2,cX⟩;have fk:c.args= #[x,y]:=au5.1 fw;have jq:c.argTypes= #[T,T]:=au5.1 lj;obtain⟨rx,args,ct⟩:=c;simp only at e2 fk jq;subst e2 fk jq;unfold execOp;simp only[ai,resolve,invoke,builtin,as8,at8,ar0,List.map_toArray,aq5,ay9,hx,d1]
def Mem.move {C:eZ} {ρ:Nat->bm} {F:Nat->Nat->Prop} {w w':aD8} (h:Mem ids C B ρ F w) {c d:Nat} {cA ch:ba} (J:ae B c=some cA) (hf:gS ids K B d=true) (cC:cR (F c) w w') (pl:bm) (cd:Nat->Prop) (lf: ∀b,cd b->(F c b\/w.heap.size<=b)/\b < w'.heap.size)
  (c9: ∀I,cj (bX C B F w) w I w'->(∀b,I b->b < w'.heap.size/\ ¬cd b)->Holds (dm ρ d pl) I cd w' pl ch):
  Mem ids C ((d,ch)::gJ B c) (dm ρ d pl) (dm F d cd) w'/\cj (bX C B F w) w (bX C ((d,ch)::gJ B c) (dm F d cd) w') w':=by
 obtain⟨g3,io,f3,l8⟩:=kK hf;have wP:d≠c:=fun e=>by subst e;rw[io] at J;cases J
 refine h.step (fun i=>i=d\/i=c) (fun i=>i=d) (cC.mono fun b _ O=>⟨c,cA,J,.inr rfl,O⟩) ?_ (fun i aG=>dt _ _ aG) (fun i aG=>dt _ _ (fun e=>aG (.inl e))) (fun i aG e=>l8 (e▸aG)) (fun _ h=>.inl h) ?_ ?_ ?_ ?_
 .intro i ch' aG a6;rw[cn,mu (fun e=>a6 (.inl e.symm)),hg] at aG
  split at aG
  .cases aG
  .exact aG
 .rintro i ch' aG _ j U rfl;rw[f3 i ch' aG] at U
  cases U
 .rintro i ch' aG ah U;rw[cn] at aG
  split at aG
  .rename_i e;subst e;injection aG with aG
   subst aG;rw[dr,dr];exact c9 _ U fun b c7=>⟨c7.1,fun aV=>c7.2.2 d ch aB7 (by rw[dr];exact aV)⟩
  .rename_i e;rcases ah with rfl |rfl
   .exact ap0 rfl e
   .rw[hg,vj rfl] at aG;cases aG
 .rintro i ch' aG ah b aV;rcases ah with rfl |rfl
  .rw[dr] at aV;obtain⟨E,G⟩:=lf b aV;exact⟨G,E.imp (fun h=>⟨c,cA,J,.inr rfl,h⟩) id⟩
  .rw[cn,mu wP,hg,vj rfl] at aG;cases aG
 .rintro i j iJ oc b aG V XZ X0 a6
  have q: ∀i ch',ae ((d,ch)::gJ B c) i=some ch'->(i=d\/i=c)->i=d:=fun i ch' aG ah=>by
   rcases ah with rfl |rfl
   .rfl
   .rw[cn,mu wP,hg,vj rfl] at aG;cases aG
  exact ap0 ((q i iJ aG XZ).trans (q j oc V X0).symm) a6
def Ip {w w':aD8} {r:aE2} {S:Nat->Prop} (h:w.grownBy w' r) (ar: ∀b,r=some b->S b):cR S w w':=Ww h ar
def X1 (bk:d5 P aQ) {T:aE4} {x y:aE0} {c:Call} (ai:o.op= .call c) (e2:c.callee= .builtin .append) (fw:c.args.toList=[x,y]) (lj:c.argTypes.toList=[T,T])
  (h:HW aQ T (a1 K x) (a1 K y) o.dst ids K B k):cI P N ids o K B k:=by
 have mem: ∀aF∈ [x,y],aF∈o.op.operands:=fun aF aO=>by
  rw[ai];simp only[Op.operands,Call.operands,ax1];exact .inr (ax7.1 (by rw[fw];exact aO))
 have m1:=mem x az9;have m2:=mem y az9;unfold HW at h
 split at h
 .rename_i e te d U H
  split at h
  .rename_i u v ys a8 aC
   split at h
   .rename_i rv _;subst rv
    split at h
    .rename_i hx;obtain⟨bZ,cC,h⟩:=h;refine cI.bb h cC <| bC.make (fun d h=>Bc h) fun K' B' g1 g2 C ρ F a w ah ar hn=>?_
     obtain⟨dp,w',gz,d1,co,cZ,ei,eI⟩:=OF bk ai e2 fw lj U a8 (ar.dc ((g1 x m1).trans hx)) (World.ownsRow_nil w 0 e (aR v)) (ar.cr ((g1 y m2).trans aC)) (fun b O=>O.1) az7;obtain⟨pl,gM,jH⟩:=Ee co;have O:Below w.heap.size w w':=⟨ei.os,ei.tape,ei.output,ei.size,fun b O=>ei.block b O (by simp[Value.ownBlock])⟩
     have X2: ∀b,dp.ownBlock=some b->w.heap.size<=b/\b < w'.heap.size:=fun b c7=>by
      have:=co.lt b c7;rcases eI with eI |eI
      .rw[eI] at c7;cases c7
      .rw[eI] at c7;injection c7 with c7;omega
     refine⟨dp,w',pl,fun b=>dp.ownBlock=some b,d1,O,X2,fun I hk aZ=>⟨⟨fun b=>by rw[gM],fun b O=>jH b (by rwa[gM] at O),gz,?_,?_⟩,?_⟩⟩
     .rw[gM];have:=co;rw[at5,az4] at this;exact this
     .exact he.mono hk cZ
     .simp only[cv,gu,dU,dr,gM]
    .rename_i lF hx
     split at h
     .rename_i ca sq xs ak
      split at h
      .rename_i Iq rA _;have rA:=ap8 rA;subst Iq rA;obtain⟨bZ,cC,h⟩:=h;refine cI.bb h cC ?_;rintro K' B' g1 g2 cX C a w ⟨ry,sA,ρ,F,ah,ar⟩ br fF Q cT;have gh:ae B' lF=_:=(g2 lF az9).trans ak;have hf:=cX d az9;have oi:=kK hf;have bf:=ah.holds lF _ gh;obtain⟨bj,ix,cs,dP,ma⟩:=bf;obtain⟨dp,w',gz,d1,co,cZ,ei,eI⟩:=OF bk ai e2 fw lj U a8 (ar.own ((g1 x m1).trans hx)) dP (ar.cr ((g1 y m2).trans aC)) (fun b O=>O.1) (by have:(nn rfl xs).length=xs.length:=rfl;omega);obtain⟨pl,gM,jH⟩:=Ee co
       obtain⟨bK,hk⟩:=ah.move (K:=K') (ch:=.row ca sq (nn rfl xs++nn rfl ys)) gh hf (Ip ei fun b O=>(bj b).2 O) pl (fun b=>dp.ownBlock=some b) (fun b O=>⟨by
         rcases eI with eI |eI
         .exact .inl ((bj b).2 (eI.symm.trans O))
         .rw[eI] at O;injection O with O;exact .inr az7,(co.lt b O).2⟩)
        (fun I hk aZ=>⟨fun b=>by rw[gM],fun b O=>jH b (by rwa[gM] at O),cs++gz,by rw[gM];simpa[nn] using co,he.tE (he.mono hk ma) (he.mono hk cZ) dP.1⟩)
       unfold Oper.wp;rw[d1,Oper.upon_value];exact cT _ _ ⟨kf.trans ry,kg.trans sA,_,_,bK,(ar.mono hk fun s i aG=>dt _ _ (fun e=>by subst e;rw[oi.1 s] at aG;cases aG)).kh (fun e U=>by rw[ry];exact br e U) (by simp only[cv,gu,dU,dr,gM])⟩
      .exact h.elim
     .exact h.elim
    .exact h.elim
   .exact h.elim
  .rename_i u cu a8 aC
   split at h
   .rename_i lF hx
    split at h
    .rename_i ca sq xs al v ys ak pB
     split at h
     .rename_i rv Iq a6 rA _ _;have rA:=ap8 rA;subst rv Iq rA;obtain⟨bZ,cC,h⟩:=h;refine cI.bb h cC ?_;rintro K' B' g1 g2 cX C a w ⟨ry,sA,ρ,F,ah,ar⟩ br fF Q cT;have gh:ae B' lF=_:=(g2 lF az9).trans ak;have X3:ae B' cu=_:=(g2 cu az9).trans pB;have hf:=cX d az9;have oi:=kK hf;obtain⟨bj,ix,cs,dP,ma⟩:=ah.holds lF _ gh;obtain⟨jZ,aok,X4,OG,OH⟩:=ah.holds cu _ X3;have h6:=hy.sk OG;rw[<-ar.own ((g1 y m2).trans aC)] at h6;obtain⟨dp,w',d1,co,ei,eI⟩:=XX bk ai e2 fw lj U a8 (ar.own ((g1 x m1).trans hx)) dP h6 (XY OG.1 OH) (by have:(nn rfl xs).length=xs.length:=rfl;have:(nn rfl ys).length=ys.length:=rfl;omega);obtain⟨pl,gM,jH⟩:=Ee co
      obtain⟨bK,hk⟩:=ah.move (K:=K') (ch:=.row ca sq (nn rfl xs++nn rfl ys)) gh hf (Ip ei fun b O=>(bj b).2 O) pl (fun b=>dp.ownBlock=some b) (fun b O=>⟨by
        rcases eI with eI |eI
        .exact .inl ((bj b).2 (eI.symm.trans O))
        .rw[eI] at O;injection O with O;exact .inr az7,(co.lt b O).2⟩)
       (fun I hk aZ=>⟨fun b=>by rw[gM],fun b O=>jH b (by rwa[gM] at O),cs++X4,by rw[gM];simpa[nn] using co,he.tE (he.mono hk ma) (he.mono hk OH) dP.1⟩)
      unfold Oper.wp;rw[d1,Oper.upon_value];exact cT _ _ ⟨kf.trans ry,kg.trans sA,_,_,bK,(ar.mono hk fun s i aG=>dt _ _ (fun e=>by subst e;rw[oi.1 s] at aG;cases aG)).kh (fun e U=>by rw[ry];exact br e U) (by simp only[cv,gu,dU,dr,gM])⟩
     .exact h.elim
    .exact h.elim
   .exact h.elim
  .exact h.elim
 .exact h.elim
def OI (s:aD2):Go.Lib.strCells ⟨s.toArray⟩=s.map hW:=by simp[Go.Lib.strCells,hW]
def X5 {w:aD8} {T eL ty e:aE4} {i:aF2} (b4:P.underlying T=some (.slice e)) (a8:P.underlying eL=some .string) (aG:P.info? e=some i) (aO:i.zero=some (.int .u8 0)) (ax:i.size=1) (O:i.bytes=1)
  {v:aE7} {n:Nat} {cs:aD7} (dP:w.ownsRow 0 e 1 v n cs) (s:aD2) (hn:n+s.length<=4294967296):
  ∃dp w',(Builtin.append_ #[T,eL] ty #[v,.string ⟨s.toArray⟩]).run P w= .ok dp w'/\w'.ownsRow 0 e 1 dp (n+s.length) (cs++s.map hW)/\w.grownBy w' v.ownBlock/\ ∀b,dp.ownBlock=some b->v.ownBlock=some b\/w.heap.size<=b:=by
 have cL:(⟨s.toArray⟩:aF5).size=s.length:=wJ s;rcases dP.2 with⟨rfl,rfl⟩ |⟨g,cap,fW,rfl,-,aV,NF,aol,fZ,wQ⟩
 .have X6:cs=[]:=at4 (by simpa using dP.1);subst X6;obtain⟨dp,w',aw,G,ag,_⟩:=Go.Lib.run_append_own_string (P:=P) w w.heap.size T eL ty e i b4 a8 aG aO ax O (.slice none 0 0) 0 [] (World.ownsRow_nil w w.heap.size e 1) ⟨s.toArray⟩ (by rw[cL];simp only[maxLen];omega) aC2 (ao9 _);rw[cL,OI] at G;refine⟨dp,w',aw,⟨G.1,?_⟩,ag,fun b O=>.inr ?_⟩
  .rcases G.2 with h |⟨g,cap,fW,ay,_,r⟩
   .exact .inl h
   .exact .inr ⟨g,cap,fW,ay,ap9 _,r⟩
  .rcases G.2 with⟨h,_⟩ |⟨g,cap,fW,ay,uY,r⟩
   .rw[h] at O;cases O
   .rw[ay] at O;simp[Value.ownBlock] at O;omega
 .obtain⟨dp,w',aw,G,ag,_⟩:=Go.Lib.run_append_own_string (P:=P) w 0 T eL ty e i b4 a8 aG aO ax O (.slice (some ⟨g,0,none⟩) n cap) n cs dP ⟨s.toArray⟩ (by rw[cL];simp only[maxLen];omega) aC2 (ap9 _);have tM:cs.length=n:=by simpa using dP.1
  refine⟨dp,w',aw,by rw[cL,OI] at G;exact G,ag,fun b c7=>?_⟩
  by_cases X7:n+(⟨s.toArray⟩:aF5).size<=cap
  .have tN:=Go.Lib.run_append_room_string (P:=P) w T eL ty e i b4 a8 aG ax g n cap fW aV ⟨s.toArray⟩ X7 az7;rw[aw] at tN;injection tN with af al
   rw[af] at c7;exact .inl c7
  .have holds: ∀j u,cs[j]? =some u->w.cell? ((⟨g,0,none⟩:Addr).add j)=some u:=dP.cells (g:=g) rfl;have tN:=Go.Lib.run_append_grow_string (P:=P) w T eL ty e i (.int .u8 0) b4 a8 aG aO ⟨g,0,none⟩ n cap cs (by rw[ax];simpa using tM) holds ⟨s.toArray⟩ az7 aC2 (by rw[O];exact growslice_fits az7 (by rw[cL];omega));rw[aw] at tN;injection tN with af al
   rw[af] at c7;simp[Value.ownBlock] at c7;exact .inr az7
def X8 (I:Nat->Prop) (w:aD8) (xs:aD2):he I w .u8 xs (xs.map hW):=fun i x hx=>by
 show(xs.map hW)[i*1+0]? =_;rw[Nat.mul_one,aw0,ar1,show xs[i]? =some x from hx];rfl
def X9 (bk:d5 P aQ) {T eL:aE4} {x y:aE0} {c:Call} (ai:o.op= .call c) (e2:c.callee= .builtin .append) (fw:c.args.toList=[x,y]) (lj:c.argTypes.toList=[T,eL])
  (h:HX aQ T eL (a1 K x) (a1 K y) o.dst ids K B k):cI P N ids o K B k:=by
 have mem: ∀aF∈ [x,y],aF∈o.op.operands:=fun aF aO=>by
  rw[ai];simp only[Op.operands,Call.operands,ax1];exact .inr (ax7.1 (by rw[fw];exact aO))
 have m1:=mem x az9;have m2:=mem y az9;unfold HX at h
 split at h
 .rename_i e te d U X' H
  split at h
  .rename_i lF s hx aC
   split at h
   .rename_i ca xs qw ak
    split at h
    .rename_i rA;have rA:=ap8 rA;subst rA;obtain⟨bZ,cC,h⟩:=h;obtain⟨b4,c',ds,bv⟩:=oR bk U;obtain⟨Ya,Yb⟩:=wL bk qw;have e1:=D9 bk X';refine cI.bb h cC ?_;rintro K' B' g1 g2 cX C a w ⟨ry,sA,ρ,F,ah,ar⟩ br fF Q cT;have gh:ae B' lF=_:=(g2 lF az9).trans ak;have hf:=cX d az9;have oi:=kK hf;have bf:=ah.holds lF _ gh;obtain⟨bj,ix,cs,dP,ma⟩:=bf;obtain⟨ti,i2,iY,rz,sD,f0,iZ⟩:=Yb;obtain⟨aF,aO,yJ⟩:=OE rz sD
     have qx:aF= .int .u8 0:=by
      have E:=rz.N8 aF aO (by have:=rz.nv;rw[Ya] at this;injection this with this;rw[<-this]);rw[E] at yJ;simpa using yJ
     rw[qx] at aO;obtain⟨dp,w',d1,co,ei,eI⟩:=X5 (P:=P) (w:=w) (T:=T) (eL:=eL) (ty:=o.type) b4 e1 rz.jW aO (rz.size.trans f0) (rz.bytes.trans iZ) (show w.ownsRow 0 ca 1 (ρ lF).fa (List.length (α:=UInt8) xs) cs from dP) s bZ;obtain⟨pl,gM,jH⟩:=Ee co
     obtain⟨bK,hk⟩:=ah.move (K:=K') (ch:=.row ca .u8 (List.append (α:=UInt8) xs s)) gh hf (Ip ei fun b O=>(bj b).2 O) pl (fun b=>dp.ownBlock=some b) (fun b O=>⟨by
       rcases eI b O with eI |eI
       .exact .inl ((bj b).2 eI)
       .exact .inr eI,(co.lt b O).2⟩)
      (fun I hk aZ=>⟨fun b=>by rw[gM],fun b O=>jH b (by rwa[gM] at O),cs++s.map hW,by
       rw[gM];have:List.length (α:=aa .u8) (List.append (α:=UInt8) xs s)=List.length (α:=UInt8) xs+s.length:=ap3;rw[this];exact co,he.tE (u:=.u8) (he.mono hk ma) (X8 _ _ s) dP.1⟩)
     have fk:c.args= #[x,y]:=au5.1 fw;have jq:c.argTypes= #[T,eL]:=au5.1 lj;obtain⟨rx,args,ct⟩:=c;simp only at e2 fk jq;subst e2 fk jq;have dF:=ar.own ((g1 x m1).trans hx);have d2:=ar.str ((g1 y m2).trans aC)
     have tK:(execOp a.eval o).run P w= .ok (.value dp) w':=by
      unfold execOp;simp only[ai,resolve,invoke,builtin,as8,at8,ar0,List.map_toArray,aq5,ay9,dF,d2,d1]
     unfold Oper.wp;rw[tK,Oper.upon_value];exact cT _ _ ⟨kf.trans ry,kg.trans sA,_,_,bK,(ar.mono hk fun s i aG=>dt _ _ (fun e=>by subst e;rw[oi.1 s] at aG;cases aG)).kh (fun e U=>by rw[ry];exact br e U) (by simp only[cv,gu,dU,dr,gM])⟩
    .exact h.elim
   .exact h.elim
  .exact h.elim
 .exact h.elim
end
end
section
section
variable {P:aD9} {aQ:df} {N:Nat} {ids:aD3} {o:Oper} {K:aW} {B:av} {k:aN->fb->Prop}
def Yc {α:Type} (fW ys:List α) (off N:Nat) (h:off+ys.length<=N) (G:N<=fW.length):(fW.take off++ys++fW.drop (off+ys.length)).take N=(fW.take N).take off++ys++(fW.take N).drop (off+ys.length):=by
 rw[List.take_append,au0 aB1,List.take_take,Nat.min_eq_left az7,List.drop_take]
 congr 2
 simp;omega
def Yd {w:aD8} {dT sT ty e:aE4} (a8:P.underlying dT=some (.slice e)) (cL:(P.info? e).map (·.size)=some 1) {v:aE7} {M off n dCap m:Nat} {cs ys:aD7} {qt:Option Addr} {jD:aE7} {D:Nat->Prop} {ca:aE4}
  (dP:w.ownsRow 0 ca 1 v M cs) (H:0 < n-> ∀g cap,v= .slice (some ⟨g,0,none⟩) M cap->M<=cap->qt=some ⟨g,off,none⟩) (oP:off+n<=M) (h6:hy D w 1 jD m ys) (E: ∀v∈ys,v.oneCell'=true):
  ∃x w',(Builtin.copy_ #[dT,sT] ty #[.slice qt n dCap,jD]).run P w= .ok x w'/\cR (fun b=>v.ownBlock=some b) w w'/\w'.ownsRow 0 ca 1 v M (cs.take off++ys.take n++cs.drop (off+(ys.take n).length)):=by
 obtain⟨sp,Dx,rfl,ak,li⟩:=Wx h6 n;have hh:(ys.take n).length<=n:=by rw[aq0];exact Nat.min_le_left _ _
 by_cases au:(ys.take n).length=0
 .refine⟨_,w,run_copy_none (P:=P) w dT sT ty e qt sp n dCap m Dx a8 cL (by rw[<-ak];exact au),cR.refl _ _,?_⟩;rw[at4 au];simpa using dP
 .obtain⟨ad,rfl,Ye⟩:=li az7;obtain⟨bZ,dP⟩:=dP;rcases dP with⟨_,ah⟩ |⟨g,cap,fW,ay,O,aV,e2,fw,lj,OJ⟩
  .omega
  .obtain rfl:=H az7 g cap ay e2;have aom:fW.toList.length=cap:=by simpa using lj
   rw[Nat.mul_one] at OJ bZ;refine⟨_,_,run_copy_row (P:=P) w dT sT ty e g off n dCap ad m Dx fW ca (ys.take n) a8 cL aV ak Ye (by rw[<-Array.length_toList];omega) (fun v ay=>E v (List.mem_of_mem_take ay)),D6 (by rw[ay];rfl),?_⟩;refine⟨by simp only[ap3,aq0,au8,Nat.mul_one] at*;omega,.inr ⟨g,cap,_,ay,O,setRow_heap w g _ _ ca _ aV,e2,fw,by simp only[List.size_toArray,ap3,aq0,au8,Nat.mul_one] at*;omega,?_⟩⟩;rw[Nat.mul_one];show List.take M (fW.toList.take off++ys.take n++fW.toList.drop (off+(ys.take n).length))=_;rw[Yc _ _ _ _ az7 az7,OJ]
def Ir (xs ys:aD2) {off n:Nat} (h:off+n<=xs.length):(laid xs off n ys).length=xs.length:=by simp only[laid,ap3,aq0,au8];omega
def Yf (xs ys:aD2) (off n:Nat):List.take off (xs.map hW)++List.take n (ys.map hW)++List.drop (off+(List.take n (ys.map hW)).length) (xs.map hW)=(laid xs off n ys).map hW:=by simp only[laid,au2,List.map_take,List.map_drop,aq0,aq3]
def Yg {I:Nat->Prop} {w:aD8} {xs:aD2} {cs:aD7} (h:he I w .u8 xs cs) (ak:cs.length=xs.length):cs=xs.map hW:=by
 refine aw5 fun i=>?_
 rw[ar1]
 cases hx:xs[i]? with
 |none=>
  have:=List.getElem?_eq_none_iff.1 hx;rw[List.getElem?_eq_none_iff.2 az7];rfl
 |some x=>
  have G:=h i x hx;simpa[cw,aR,hW] using G
def Yh (I:Nat->Prop) (w:aD8) (xs:aD2):he I w .u8 xs (xs.map hW):=fun i x hx=>by
 have hx:xs[i]? =some x:=hx;simp[cw,aR,hx];rfl
def Yi {I:Nat->Prop} {w:aD8} {v:aE7} {l:aD2} (aZ: ∀b,I b->b < w.heap.size) (h:cw I w (.ce .u8) l (fun _=>some v)):hy I w 1 v l.length (l.map hW):=by
 obtain⟨A,cap,au,E,G,ag⟩:=h;injection au with au
 refine⟨az9,A,cap,au,E,G,fun ao=>?_⟩;obtain⟨b,o,eR,O,hx⟩:=ag ao;refine⟨b,o,eR,O,aZ b O,fun j u a8=>?_⟩;rw[ar1] at a8;obtain⟨x,Be,rfl⟩:=as4.1 a8;have:=hx j x Be;simpa[cw,aR,hW] using this
def bC.Yj {c:Nat} {cA ch:ba} (J:ae B c=some cA)
  (h: ∀(K':aW) (B':av),(∀x,x∈o.op.operands->a1 K' x=a1 K x)-> ∀(C:eZ) (ρ:Nat->bm) (F:Nat->Nat->Prop) (a:Act) (w:aD8),Mem ids C B' ρ F w->eh K' ρ (bX C B' F w) a w->ae B' c=some cA-> ∃x w',(execOp a.eval o).run P w= .ok (.value x) w'/\cR (F c) w w'/\
   (∀I,cj (bX C B' F w) w I w'->Holds ρ I (F c) w' (ρ c) ch)):
  bC P N ids o K B (.c (.one .any)) ⟨[c],[],[(c,some ch)]⟩:=by
 rintro K' B' E G - C a w ⟨hn,H,ρ,F,ah,ar⟩ br fF Q cT;have c0:ae B' c=some cA:=(G c az9).trans J;obtain⟨x,w',hx,cC,c9⟩:=h K' B' E C ρ F a w ah ar c0;obtain⟨bK,U⟩:=ah.hz c0 cC c9;unfold Oper.wp;rw[hx,Oper.upon_value];exact cT _ _ ⟨kf.trans hn,kg.trans H,ρ,F,bK,(ar.mono U fun _ _ _=>rfl).kh (fun e U=>by rw[hn];exact br e U) trivial⟩
def OK (bk:d5 P aQ) {T eL e:aE4} {te:b5} {x y:aE0} {c:Call} {d off n:Nat} {ys:aD2} (ai:o.op= .call c) (e2:c.callee= .builtin .copy) (fw:c.args.toList=[x,y]) (lj:c.argTypes.toList=[T,eL]) (U:elemOf aQ T=some (e,te)) (iw:qr aQ e=true) (aC:a1 K y= .c (.one (.d (.cr .u8 ys))))
  (hx: ∀(K':aW) (ρ:Nat->bm) (I:Nat->Prop) (a:Act) (w:aD8),eh K' ρ I a w->a1 K' x=a1 K x-> ∀(M:Nat),(ρ d).n=M->(∀e xs,ae B d=some (.row e .u8 xs)->List.length xs=M)->off+n<=M-> ∃qt dCap,a.eval x= .slice qt n dCap/\(0 < n-> ∀g cap,(ρ d).fa= .slice (some ⟨g,0,none⟩) M cap->M<=cap->qt=some ⟨g,off,none⟩))
  (h:DS d off n ys B k):cI P N ids o K B k:=by
 have fk:c.args= #[x,y]:=au5.1 fw;have jq:c.argTypes= #[T,eL]:=au5.1 lj;obtain⟨rx,args,ct⟩:=c;simp only at e2 fk jq;subst e2 fk jq;have m1:x∈o.op.operands:=aA8
 have m2:y∈o.op.operands:=aA8
 obtain⟨a8,c',ds,bv⟩:=oR bk U;obtain⟨_,aon,i8,d8,OL,_,Yk,_⟩:=wL bk iw;have cL:(P.info? e).map (·.size)=some 1:=by rw[OL.jW];simp[OL.size,Yk]
 unfold DS at h
 split at h
 .rename_i ca xs ak;obtain⟨oP,h⟩:=h;refine cI.of h <| bC.Yj ak fun K' B' E C ρ F a w ah ar gh=>?_
  obtain⟨bj,jH,cs,dP,ma⟩:=ah.holds d _ gh;have Ot:=dP;obtain⟨dI,A,cap,ay,_,_,_⟩:=hy.sk Ot;have hn:(ρ d).n=xs.length:=by unfold bm.fa at ay;injection ay
  have fZ:cs=xs.map hW:=Yg ma (by have:=dI;simp[aR] at this;exact this);obtain⟨qt,dCap,Yl,rB⟩:=hx K' ρ _ a w ar (E x m1) _ hn (fun al aoo G=>by rw[ak] at G;cases G;rfl) oP;have Ym:=Yi (fun b O=>O.1) (ar.cr ((E y m2).trans aC));obtain⟨r,w',d1,cC,fN⟩:=Yd (P:=P) (w:=w) (dT:=T) (sT:=eL) (ty:=o.type) a8 cL (dCap:=dCap) dP rB oP Ym (NG _);refine⟨r,w',?_,cC.mono fun b _ O=>(bj b).2 O,fun I a2=>⟨bj,jH,List.take off cs++List.take n (List.map hW ys)++List.drop (off+(List.take n (List.map hW ys)).length) cs,?_,?_⟩⟩
  .simp[execOp,ai,resolve,invoke,builtin,Yl,d1]
  .have bt:List.length (α:=aa .u8) (laid xs off n ys)=List.length (α:=aa .u8) xs:=Ir xs ys oP;show w'.ownsRow 0 ca 1 (ρ d).fa (List.length (α:=aa .u8) (laid xs off n ys)) _;rw[bt];exact fN
  .rw[fZ];have af:=Yf xs ys off n;rw[af];exact Yh I w' _
 .exact h.elim
def Yn (bk:d5 P aQ) {T eL:aE4} {x y:aE0} {c:Call} (ai:o.op= .call c) (e2:c.callee= .builtin .copy) (fw:c.args.toList=[x,y]) (lj:c.argTypes.toList=[T,eL]) (h:H5 aQ T (a1 K x) (a1 K y) B k):cI P N ids o K B k:=by
 unfold H5 at h
 split at h
 .rename_i e te U
  split at h
  .rename_i ys iw aC
   split at h
   .rename_i d hx
    split at h
    .rename_i ca xs ak;refine OK bk ai e2 fw lj U iw aC (fun K' ρ I a w ar Z M ah rC oP=>⟨(ρ d).A,(ρ d).cap,?_,fun ao g cap ay _=>?_⟩) h
     .have:=ar.own (Z.trans hx);rw[this,rC ca xs ak,<-ah];rfl
     .unfold bm.fa at ay;injection ay
    .exact h.elim
   .rename_i d s off n hx
    split at h
    .rename_i ax;have:=ap8 ax;subst this;refine OK bk ai e2 fw lj U iw aC (fun K' ρ I a w ar Z M ah rC oP=>⟨_,_,ar.os (Z.trans hx),fun ao g cap ay aop=>?_⟩) h;unfold bm.fa at ay;injection ay with af al bt
     rw[mu az7,af,av4,qi];simp
    .exact h.elim
   .exact h.elim
  .exact h.elim
 .exact h.elim
end
end
section
section
variable {P:aD9} {aQ:df} {N:Nat} {ids:aD3} {o:Oper} {K:aW} {B:av} {k:aN->fb->Prop}
def kn: ∀{aJ:av} {B:av},kI B aJ-> ∀{c ch},ae aJ c=some ch->ae B c=some ch
 | [],B,h,c,ch,J=>by cases J
 |(d,x)::aJ,B,h,c,ch,J=>by
  rw[cn] at J
  split at J
  .rename_i e;subst e;injection J with J
   subst J;exact h.1
  .exact kn h.2 J
def f1: ∀{B:av} {c:Nat},c∈ci B↔ ∃ch,ae B c=some ch
 | [],c=>by simp[ci,ae]
 |(d,x)::B,c=>by
  simp only[ci,ap7,cn]
  by_cases e:d=c
  .subst e;simp
  .rw[mu e];constructor
   .rintro(h |h)
    .exact ap0 h.symm e
    .exact f1.1 h
   .exact fun h=>.inr (f1.2 h)
def Is: ∀{aJ:av} {bb:aD3} {aP:av},l7 aJ bb aP=true-> ∀{c},c∈ci aP->c∈ci aJ\/c∈bb
 |aJ,bb,[],h,c,J=>by simp[ci] at J
 |aJ,bb,(d,x)::aP,h,c,J=>by
  simp only[l7,ao8,au3,ar5] at h;rcases ap7.1 J with rfl |J
  .exact h.1.1
  .exact Is h.2 J
def OM: ∀(aP:av) (aJ:av) (bb:aD3) (B:av),l7 aJ bb aP=true-> ∀c,ae (g0 (ij [] aP) B) c=(match ae aP c with |some ch=>some ch |none=>ae B c)
 | [],_,_,B,_,c=>by simp[ij,HQ,g0,ae]
 |(d,x)::aP,aJ,bb,B,h,c=>by
  simp only[l7,ao8,aq9] at h;show ae (g0 (ij [] aP) ((d,x)::B)) c=_;rw[OM aP aJ bb ((d,x)::B) h.2 c,cn,cn]
  by_cases e:d=c
  .subst e
   have hn:ae aP d=none:=by
    cases ak:ae aP d with
    |none=>rfl
    |some ch=>
     have:=f1.2 ⟨ch,ak⟩;have G:=h.1.2;rw[<-az6,ar5] at G;exact ap0 this G
   rw[hn,vj rfl,vj rfl]
  .rw[mu e,mu e]
def Ef: ∀(aJ:av) (mI:av) (bb:aD3) (aP B:av),l7 mI bb aP=true-> ∀c,ae (g0 (ij aJ aP) B) c=(match ae aP c with |some ch=>some ch |none=>if c∈ci aJ then none else ae B c)
 | [],mI,bb,aP,B,h,c=>by
  rw[OM aP mI bb B h c];simp[ci]
 |(d,x)::aJ,mI,bb,aP,B,h,c=>by
  simp only[ij,g0];rw[Ef aJ mI bb aP (gJ B d) h c,hg]
  cases ae aP c with
  |some ch=>rfl
  |none=>
   simp only[ci,ap7]
   by_cases e:d=c
   .subst e;simp
   .by_cases al:c∈ci aJ
    .simp[al]
    .simp[e,al,au7 e]
def Eg: ∀{bb:aD3},rp ids K B bb=true-> ∀c,c∈bb->gS ids K B c=true
 | [],_,c,J=>by cases J
 |d::bb,h,c,J=>by
  simp only[rp,ao8] at h;rcases ap7.1 J with rfl |J
  .exact h.1.1
  .exact Eg h.2 c J
def ON {ev:Operand->Value} {f:aE8} {c:Call} {xs:aF7} {w:aD8} (hf:iX P f=true) (ai:o.op= .call c) (E:c.callee= .value (.func f)) (G:c.args.toList=xs) (tO:ev (.func f)= .func (.func f) #[] #[]):(execOp ev o).run P w= .ok (.enter f (xs.map ev).toArray) w:=by
 have fk:c.args=xs.toArray:=by rw[<-G]
 obtain⟨rx,args,ct⟩:=c;simp only at E fk;subst E fk;unfold iX at hf
 split at hf
 .rename_i fn j0;simp only[aq9,at1,beq_eq_false_iff_ne] at hf;have G: ¬fn.body=none:=fun e=>by rw[e] at hf;simp at hf
  simp[execOp,ai,resolve,invoke,tO,Deferred.ofValue,callFunc,go_sem,j0];rw[mu hf.1,mu G]
 .cases hf
def yK {xs:aF7} (mem: ∀aF∈xs,aF∈o.op.operands) {K':aW} {ρ:Nat->bm} {I:Nat->Prop} {a:Act} {w:aD8} (g1: ∀x,x∈o.op.operands->a1 K' x=a1 K x) (ar:eh K' ρ I a w) (i:Nat) (v:aN) (x:aE7) (ay:(xs.map (a1 K))[i]? =some v) (hx:(xs.map a.eval)[i]? =some x):cv ρ I w v x:=by
 rw[ar1] at ay hx
 cases aG:xs[i]? with
 |none=>rw[aG] at ay;cases ay
 |some aF=>
  rw[aG] at ay hx;simp only[av4,ap5] at ay hx;subst ay hx;rw[<-g1 aF (mem aF (at9 aG))];exact ar.get aF
def Bf {f:aE8} {args:List aN} {xs:aF7} (mem: ∀aF∈xs,aF∈o.op.operands)
  (tK: ∀(K':aW) (ρ:Nat->bm) (I:Nat->Prop) (a:Act) (w:aD8),(∀x,x∈o.op.operands->a1 K' x=a1 K x)->eh K' ρ I a w-> ∃bW:List Value,(iX P f=true->(execOp a.eval o).run P w= .ok (.enter f bW.toArray) w)/\bW.length=args.length/\ ∀(i:Nat) (v:aN) (x:aE7),args[i]? =some v->bW[i]? =some x->cv ρ I w v x)
  (h:wB P f args ids K B k):cI P N ids o K B k:=by
 obtain⟨aJ,bb,res,aP,⟨fH,j0⟩,hN,bv,h⟩:=h;rw[ro] at h;simp only[ao8] at bv;have lG:=bv.2;refine⟨_,_,h,?_,Eg bv.1⟩;rintro K' B' g1 g2 cX C a w ⟨hn,H,ρ,F,ah,ar⟩ br fF Q cT;have eM: ∀{c ch},ae aJ c=some ch->ae B' c=some ch:=fun {c ch} J=>(g2 c (f1.2 ⟨ch,J⟩)).trans (kn hN J)
 have oi: ∀c∈bb,(∀s,(dQ K' s).has c=false)/\ae B' c=none/\(∀d ch,ae B' d=some ch->ch.has c=false)/\c∉ids:=fun c J=>kK (cX c J)
 obtain⟨bW,d1,qy,sE⟩:=tK K' ρ _ a w g1 ar
 have J:=j0 ρ F (bX C B' F w) w bW (fun b O=>O.1) (fun c ch J=>ah.holds c ch (eM J)) (fun c ch J b O=>⟨(ah.own c ch (eM J) b O).1,fun aZ=>aZ.2.2 c ch (eM J) O⟩)
  (fun c ck ch ch' b E G=>ah.e0 c ck ch ch' b (eM E) (eM G)) qy sE
 unfold Oper.wp;rw[d1 fH,Oper.upon_enter];refine J.mono ?_;rintro e w' ⟨x,ρ',F',rfl,cC,de,I',i0,gw,c9,aq,hB,dz⟩;have Bg: ∀c,ae (g0 (ij aJ aP) B') c=(match ae aP c with |some ch=>some ch |none=>if c∈ci aJ then none else ae B' c):=Ef aJ aJ bb aP B' lG
 have oS: ∀c ch,ae (g0 (ij aJ aP) B') c=some ch->ae aP c=some ch\/(ae aP c=none/\c∉ci aJ/\ae B' c=some ch):=fun c ch J=>by
  rw[Bg] at J
  cases O:ae aP c with
  |some ch'=>rw[O] at J;exact .inl J
  |none=>
   rw[O] at J;simp only at J
   split at J
   .cases J
   .rename_i Z;exact .inr ⟨rfl,Z,J⟩
 let cN:Nat->Nat->Prop:=fun c=>if c∈ci aP then F' c else F c
 have jZ: ∀c ch,ae aP c=some ch->cN c=F' c:=fun c ch J=>vj (f1.2 ⟨ch,J⟩)
 have Bh: ∀c,ae aP c=none->cN c=F c:=fun c J=>mu (fun Z=>by
  obtain⟨ch,h⟩:=f1.1 Z;rw[J] at h;cases h)
 have ko: ∀c ch,ae aP c=some ch->c∈ci aJ\/c∈bb:=fun c ch J=>Is lG (f1.2 ⟨ch,J⟩)
 have tP: ∀c ch,ae (g0 (ij aJ aP) B') c=some ch->(c∈ci aJ\/c∈bb)->ae aP c=some ch:=fun c ch J bK=>by
  rcases oS c ch J with h |⟨E,G,ag⟩
  .exact h
  .rcases bK with h |h
   .exact ap0 h G
   .rw[(oi c h).2.1] at ag;cases ag
 have mJ:cj I' w' (bX C (g0 (ij aJ aP) B') cN w') w':=fun b O=>by
  obtain⟨af,al⟩:=gw b O;refine⟨⟨af,?_,fun c ch J bj=>?_⟩,rfl⟩
  .rcases al with al |⟨c,ch,al,bt⟩ |al
   .exact al.2.1
   .exact .inr ((ah.own c ch (eM al) b bt).2)
   .exact .inr (.inr (ah.fresh al))
  .rcases oS c ch J with h |⟨E,G,ag⟩
   .rw[jZ c ch h] at bj;exact(aq c ch h b bj).2.1 O
   .rw[Bh c E] at bj;rcases al with al |⟨d,ch',al,bt⟩ |al
    .exact al.2.2 c ch ag bj
    .exact ah.e0 d c ch' ch b (eM al) ag (fun e=>G (e▸f1.2 ⟨ch',al⟩)) bt bj
    .have:=(ah.own c ch ag b bj).1;omega
 obtain⟨bK,a2⟩:=ah.step (B':=g0 (ij aJ aP) B') (ρ':=ρ') (F':=cN) (w':=w') (fun c=>c∈ci aJ\/c∈bb) (fun c=>c∈bb)
  (cC.mono fun b _ ⟨c,ch,E,G⟩=>⟨c,ch,eM E,.inl (f1.2 ⟨ch,E⟩),G⟩)
  (fun c ch J hn=>by
   rcases oS c ch J with h |⟨_,_,ag⟩
   .exact ap0 (ko c ch h) hn
   .exact ag)
  de
  (fun c hn=>by
   cases O:ae aP c with
   |none=>exact Bh c O
   |some ch=>exact ap0 (ko c ch O) hn)
  (fun c J hn=>(oi c hn).2.2.2 J) (fun c h=>.inr h)
  (fun c ch J _ d H hn=>by rw[(oi d hn).2.2.1 c ch J] at H;cases H)
  (fun c ch J bK _=>by
   have O:=tP c ch J bK;rw[jZ c ch O];exact Holds.cg mJ (fun _ _=>rfl) (ao9 _) ch (fun _ _=>rfl) (c9 c ch O))
  (fun c ch J bK b O=>by
   have tQ:=tP c ch J bK;rw[jZ c ch tQ] at O;obtain⟨af,_,bt⟩:=aq c ch tQ b O;refine⟨af,bt.imp (fun⟨gK,cA,E,G⟩=>⟨gK,cA,eM E,.inl (f1.2 ⟨cA,E⟩),G⟩) id⟩)
  (fun c ck ch ch' b J c0 ko i5 a6 O c7=>by
   have E:=tP c ch J ko;have G:=tP ck ch' c0 i5;rw[jZ c ch E] at O;rw[jZ ck ch' G] at c7;exact hB c ck ch ch' b E G a6 O c7)
 refine cT _ _ ⟨kf.trans hn,kg.trans H,ρ',cN,bK,(ar.mono a2 fun s d H=>de d fun hn=>by rw[(oi d hn).1 s] at H;cases H).kh (fun e U=>by rw[hn];exact br e U) (cv.mono mJ _ _ (fun _ _=>rfl) dz)⟩
def OO {f:aE8} {c:Call} {xs:aF7} (ai:o.op= .call c) (E:c.callee= .value (.func f)) (G:c.args.toList=xs) (h:wB P f (xs.map (a1 K)) ids K B k):cI P N ids o K B k:=by
 have mem: ∀aF∈xs,aF∈o.op.operands:=fun aF aO=>by
  rw[ai];simp only[Op.operands,Call.operands,ax1];exact .inr (ax7.1 (by rw[G];exact aO))
 exact Bf mem (fun K' ρ I a w g1 ar=>⟨xs.map a.eval,fun fH=>ON fH ai E G rfl,az9,yK mem g1 ar⟩) h
def OP {ρ:Nat->bm} {I:Nat->Prop} {w:aD8}: ∀(aB:List aN) (l:List kc) (us:aD7),wD aB=some l->us.length=aB.length->(∀(i:Nat) (v:aN) (x:aE7),aB[i]? =some v->us[i]? =some x->cv ρ I w v x)->hK ρ I w l us
 | [],l,us,h,ak,_=>by
  simp only[wD,ap5] at h;subst h;exact at4 ak
 |v::aB,l,[],h,ak,_=>by simp at ak
 |v::aB,l,u::us,h,ak,H=>by
  have bl:=fun r aw=>OP aB r us aw (by simpa using ak) (fun i v x ay hx=>H (i+1) v x aB9 aC7)
  have au:=H 0 v u rfl rfl;unfold wD at h
  split at h
  .rename_i e;simp at e
  .rename_i c o rr e;injection e with af al
   subst af al
   split at h
   .rename_i r aw;injection h with h
    subst h;exact⟨u,us,rfl,au,bl r aw⟩
   .cases h
  .rename_i x rr e;injection e with af al
   subst af al
   split at h
   .rename_i r aw;injection h with h
    subst h;exact⟨u,us,rfl,au,bl r aw⟩
   .cases h
  .cases h
def Yo {f:aE8} {fs cs:Array Operand} (ai:o.op= .makeFunc (.func f) fs cs) (h:match fs.toList,wD (cs.toList.map (a1 K)) with
  | [],some l=>k (.c (.one (.cW f l))) bI
  |_,_=>False):cI P N ids o K B k:=by
 split at h
 .rename_i l u' ak
  have mem: ∀aF∈cs.toList,aF∈o.op.operands:=fun aF aO=>by
   rw[ai];simp only[Op.operands,ax1];exact .inr (ax7.1 aO)
  refine cI.of h <| bC.val fun K' B' g1 g2 C ρ F a w ah ar=>?_
  have Yp:fs= #[]:=Array.toList_eq_nil_iff.1 u'
  refine⟨.func (.func f) #[] (List.toArray (cs.toList.map a.eval)),(by
   have e:cs.map a.eval=List.toArray (cs.toList.map a.eval):=au5.1 az9;simp[execOp,ai,Instr.makeFunc,Yp,e]),_,rfl,?_⟩
  exact OP _ l _ ak az9 (yK mem g1 ar)
 .exact h.elim
def It {ev:Operand->Value} {f:aE8} {c:Call} {x:aE0} {xs:aF7} {cs:aD7} {w:aD8} (hf:iX P f=true) (ai:o.op= .call c) (E:c.callee= .value x) (G:c.args.toList=xs) (tO:ev x= .func (.func f) #[] (List.toArray cs)):(execOp ev o).run P w= .ok (.enter f (xs.map ev++cs).toArray) w:=by
 have fk:c.args=xs.toArray:=by rw[<-G]
 obtain⟨rx,args,ct⟩:=c;simp only at E fk;subst E fk;unfold iX at hf
 split at hf
 .rename_i fn j0;simp only[aq9,at1,beq_eq_false_iff_ne] at hf;have G: ¬fn.body=none:=fun e=>by rw[e] at hf;simp at hf
  simp[execOp,ai,resolve,invoke,tO,Deferred.ofValue,callFunc,go_sem,j0];rw[mu hf.1,mu G]
 .cases hf
def hK.bW {ρ:Nat->bm} {I:Nat->Prop} {w:aD8}: ∀(l:List kc) (aB:aD7),hK ρ I w l aB->aB.length=(nr l).length/\ ∀(i:Nat) (v:aN) (x:aE7),(nr l)[i]? =some v->aB[i]? =some x->cv ρ I w v x
 | [],aB,h=>by rw[show aB=[] from h];exact⟨rfl,fun i v x ay=>by simp[nr] at ay⟩
 | .p c o::l,_,⟨v,r,e,E,G⟩=>by
  subst e;obtain⟨g1,g2⟩:=hK.bW l r G;refine⟨by simp[nr,g1],fun i u x a8 hx=>?_⟩
  match i with
  |0=>
   simp only[nr,aq2,ap5] at a8 hx;subst a8 hx;exact E
  |i+1=>exact g2 i u x (by simpa[nr] using a8) aC7
 | .d y::l,_,⟨v,r,e,E,G⟩=>by
  subst e;obtain⟨g1,g2⟩:=hK.bW l r G;refine⟨by simp[nr,g1],fun i u x a8 hx=>?_⟩
  match i with
  |0=>
   simp only[nr,aq2,ap5] at a8 hx;subst a8 hx;exact E
  |i+1=>exact g2 i u x (by simpa[nr] using a8) aC7
def Yq {f:aE8} {c:Call} {t:Nat} {l:List kc} {xs:aF7} (ai:o.op= .call c) (E:c.callee= .value (.tmp t)) (G:c.args.toList=xs) (ak:dQ K t= .c (.one (.cW f l))) (h:wB P f (xs.map (a1 K)++nr l) ids K B k):cI P N ids o K B k:=by
 have mem: ∀aF∈xs,aF∈o.op.operands:=fun aF aO=>by
  rw[ai];simp only[Op.operands,Call.operands,ax1];exact .inr (ax7.1 (by rw[G];exact aO))
 have wR:Operand.tmp t∈o.op.operands:=by
  rw[ai];simp only[Op.operands,Call.operands,ax1,E];exact .inl az9
 refine Bf mem (fun K' ρ I a w g1 ar=>?_) h;have ay:=ar (t);have Z:dQ K' t=dQ K t:=g1 (.tmp t) wR;rw[Z,ak] at ay;obtain⟨aB,e,J⟩:=ay;obtain⟨cE,cG⟩:=hK.bW l aB J;refine⟨xs.map a.eval++aB,fun fH=>It fH ai E G e,by simp[cE],fun i v x ay hx=>?_⟩
 by_cases aG:i < xs.length
 .rw[as0 (by simpa using aG)] at ay hx;exact yK mem g1 ar i v x ay hx
 .rw[as3 aB1] at ay hx;simp only[aq3] at ay hx;exact cG _ v x ay hx
def OQ: ∀bs:aD3,(qm bs).length=(tz bs).length
 | []=>rfl
 |b::l=>by simp[qm,tz,OQ l]
def OR {ρ:Nat->bm} {I:Nat->Prop} {w:aD8}: ∀(bs:aD3) (i:Nat) (u:aN) (x:aE7),(tz bs)[i]? =some u->(qm bs)[i]? =some x->cv ρ I w u x
 | [],i,u,x,a8,_=>by simp[tz] at a8
 |b::l,0,u,x,a8,hx=>by
  simp only[tz,qm,aq2,ap5] at a8 hx;subst a8 hx;exact rfl
 |b::l,i+1,u,x,a8,hx=>by
  simp only[tz,qm,ay7] at a8 hx;exact OR l i u x a8 hx
def Yr {c:Call} {t:Nat} {y:Nat×aD3} {xs:aF7} (ai:o.op= .call c) (E:c.callee= .value (.tmp t)) (G:c.args.toList=xs) (ak:dQ K t= .c (.one (.d (.fn y)))) (h:wB P y.1 (xs.map (a1 K)++tz y.2) ids K B k):cI P N ids o K B k:=by
 have mem: ∀aF∈xs,aF∈o.op.operands:=fun aF aO=>by
  rw[ai];simp only[Op.operands,Call.operands,ax1];exact .inr (ax7.1 (by rw[G];exact aO))
 have wR:Operand.tmp t∈o.op.operands:=by
  rw[ai];simp only[Op.operands,Call.operands,ax1,E];exact .inl az9
 refine Bf mem (fun K' ρ I a w g1 ar=>?_) h;have ay:=ar (t);have Z:dQ K' t=dQ K t:=g1 (.tmp t) wR;rw[Z,ak] at ay;have e:a.tmps.getD t undef= .func (.func y.1) #[] (List.toArray (qm y.2)):=ay;refine⟨xs.map a.eval++qm y.2,fun fH=>It fH ai E G e,by simp[OQ],fun i v x ay hx=>?_⟩
 by_cases aG:i < xs.length
 .rw[as0 (by simpa using aG)] at ay hx;exact yK mem g1 ar i v x ay hx
 .rw[as3 aB1] at ay hx;simp only[aq3] at ay hx;exact OR _ _ v x ay hx
def Ys (bk:d5 P aQ) {T:aE4} {x:aE0} {c:Call} (ai:o.op= .call c) (e2:c.callee= .builtin .len) (fw:c.args.toList=[x]) (lj:c.argTypes.toList=[T]) (h:match HT aQ T B (a1 K x) with
  |some (n,iW)=>k (.c (.one (.d (.int .i64 (n:Int))))) ⟨iW,[],[]⟩
  |none=>False):cI P N ids o K B k:=by
 have fk:c.args= #[x]:=au5.1 fw;have jq:c.argTypes= #[T]:=au5.1 lj;obtain⟨rx,args,ct⟩:=c;simp only at e2 fk jq;subst e2 fk jq;have m1:x∈o.op.operands:=aA8
 have run: ∀{ev:Operand->Value} {w:aD8} {A:Option Addr} {n cap:Nat} {e:Nat},ev x= .slice A n cap->P.underlying T=some (.slice e)->(execOp ev o).run P w= .ok (.value (.int .i64 (n:Int))) w:=fun {ev w A n cap e} E cq=>by
  simp[execOp,ai,E,resolve,invoke,builtin,Builtin.len_,run_underlying cq,goInt]
 split at h
 .rename_i n iW hn;refine cI.of h ?_;unfold HT at hn
  split at hn
  .rename_i s hx
   split at hn
   .rename_i b4;injection hn with hn
    injection hn with af al
    subst af al;refine bC.one hx m1 fun K' ρ I a w ar e=>⟨_,?_,rfl⟩
    simp[execOp,ai,ar.str e,resolve,invoke,builtin,Builtin.len_,run_underlying (D9 bk b4),goInt,wJ]
   .cases hn
  .rename_i u xs hx
   split at hn
   .rename_i p U;obtain⟨a8,_⟩:=oR bk (e:=p.1) (te:=p.2) U;injection hn with hn
    injection hn with af al
    subst af al;refine bC.one hx m1 fun K' ρ I a w ar e=>?_
    obtain⟨A,cap,bt,_⟩:=ar.cr e;injection bt with bt
    exact⟨_,run bt a8,rfl⟩
   .cases hn
  .rename_i hx
   split at hn
   .rename_i p U;obtain⟨a8,_⟩:=oR bk (e:=p.1) (te:=p.2) U;injection hn with hn
    injection hn with af al
    subst af al;exact bC.one hx m1 fun K' ρ I a w ar e=>⟨_,run (ar.dc e) a8,rfl⟩
   .cases hn
  .rename_i lF hx
   split at hn
   .rename_i p U;obtain⟨a8,_⟩:=oR bk (e:=p.1) (te:=p.2) U
    split at hn
    .rename_i ca u xs ak;injection hn with hn
     injection hn with af al
     subst af al;refine bC.val fun K' B' g1 g2 C ρ F a w ah ar=>?_
     obtain⟨bj,jH,cs,dP,_⟩:=ah.holds lF _ ((g2 lF az9).trans ak);have dF:=ar.own ((g1 x m1).trans hx);obtain⟨_,A,cap,ay,_⟩:=hy.sk dP;exact⟨_,run (dF.trans ay) a8,rfl⟩
    .cases hn
   .cases hn
  .rename_i lF hx
   split at hn
   .rename_i p b4
    split at hn
    .rename_i aI aK es ak;injection hn with hn
     injection hn with af al
     subst af al;refine bC.val fun K' B' g1 g2 C ρ F a w ah ar=>?_
     obtain⟨bj,bP,bU,O,aD,dh⟩:=ah.holds lF _ ((g2 lF az9).trans ak);have dF:=ar.mp ((g1 x m1).trans hx);refine⟨.int .i64 (es.length:Int),?_,rfl⟩;rw[<-AU aD];simp[execOp,ai,dF,resolve,invoke,builtin,Builtin.len_,run_underlying (Eb bk (kt:=p.1) (et:=p.2) b4),goInt,av0 O]
    .cases hn
   .cases hn
  .cases hn
 .exact h.elim
def OS {x y:aE0} {c:Call} {bi:Builtin} (Yt:bi= .min\/bi= .max) (ai:o.op= .call c) (e2:c.callee= .builtin bi) (fw:c.args.toList=[x,y]) (h:match a1 K x,a1 K y with
  | .c (.one (.d (.int .i64 a))),.c (.one (.d (.int .i64 b)))=>k (.c (.one (.d (.int .i64 (if bi= .min then min a b else max a b))))) bI
  |_,_=>False):cI P N ids o K B k:=by
 have fk:c.args= #[x,y]:=au5.1 fw;obtain⟨rx,args,ct⟩:=c;simp only at e2 fk;subst e2 fk;have m1:x∈o.op.operands:=aA8
 have m2:y∈o.op.operands:=aA8
 split at h
 .rename_i a b hx aC;refine cI.of h <| bC.two hx aC m1 m2 fun K' ρ I fj w ar af al=>⟨_,?_,rfl⟩
  rcases Yt with rfl |rfl
  .have e:(if b < a then b else a)=min a b:=by rw[Int.min_def];split <;>split <;>omega
   simp[execOp,ai,ar.int af,ar.int al,resolve,invoke,builtin,run_min_int2,e]
  .have e:(if b >a then b else a)=max a b:=by rw[Int.max_def];split <;>split <;>omega
   simp only[gt_iff_lt] at e;simp[execOp,ai,ar.int af,ar.int al,resolve,invoke,builtin,run_max_int2,e]
 .exact h.elim
def lE.bool {P:aD9} {T:Nat} {ti:b5} {i:aF2} {d:aF3} (h:lE P T ti i d) (Z:ti.kd= .bool):P.underlying T=some .bool:=by
 have:=h.kd;rw[Z] at this;rw[h.nv]
 cases d <;>simp[sv] at this⊢
def OT (bk:d5 P aQ) {T:Nat} (h:DO aQ T=true):P.underlying T=some .bool:=by
 unfold DO at h
 split at h
 .rename_i ti gL
  split at h
  .rename_i Z;obtain⟨_,_,bv⟩:=bk.at_ gL;exact bv.bool Z
  .cases h
 .cases h
def OU (bk:d5 P aQ) {T:Nat} (h:HR aQ T=true): ∃e,P.underlying T=some (.pointer e):=by
 unfold HR at h
 split at h
 .rename_i ti gL
  split at h
  .rename_i e Z;obtain⟨_,_,bv⟩:=bk.at_ gL;exact⟨e,bv.ptr Z⟩
  .cases h
 .cases h
def OV (bk:d5 P aQ) {T:Nat} (h:yu aQ T=true): ∃e i,P.underlying T=some (.pointer e)/\P.info? e=some i/\i.size≠0:=by
 unfold yu at h
 split at h
 .rename_i ti gL
  split at h
  .rename_i e Z
   split at h
   .rename_i te u9;obtain⟨_,_,bv⟩:=bk.at_ gL;obtain⟨i,_,sC⟩:=bk.at_ u9;exact⟨e,i,bv.ptr Z,sC.jW,by rw[sC.size];exact sC.pos⟩
   .cases h
  .cases h
 .cases h
def Eh (h:A0 P ids o K B k):cI P N ids o K B k:=by obtain⟨v,e,E,G,ag⟩:=h;rw[ro] at ag;exact⟨v,e,ag,E N,Eg G⟩
def Yu (bk:d5 P aQ) (h:H6 P aQ ids o K B k):cI P N ids o K B k:=by
 unfold H6 at h
 split at h
 .exact Oj (.inl ‹_›) h
 .exact Oj (.inr ‹_›) h
 .exact W2 ‹_› h
 .rename_i op T x y fY ai;have qz:(∃v,k v bI/\bC P N ids o K B v bI)->cI P N ids o K B k:=fun⟨v,E,G⟩=>cI.of E G
  split at h
  .rename_i b4;exact qz (Oe ai (fun T=>OV bk) (OU bk b4) h)
  .rename_i b4;exact qz (Oe ai (fun T=>OV bk) (OU bk b4) h)
  .split at h
   .exact h.elim
   .exact h.elim
   .rename_i hx
    split at h
    .rename_i O;exact qz (Of ai (OT bk O) (.inl hx) h)
    .exact h.elim
   .rename_i hx
    split at h
    .rename_i O;exact qz (Of ai (OT bk O) (.inr hx) h)
    .exact h.elim
   .rename_i E G _ _;exact qz (Oc ai (.inr fun c d=>⟨E c d,G _⟩) h)
  .exact h.elim
 .exact W3 ‹_› h
 .exact W4 ‹_› h
 .exact W5 ‹_› h
 .exact W6 bk ‹_› h
 .exact W8 bk ‹_› h
 .exact Xh bk ‹_› h
 .exact Xl bk ‹_› h
 .exact Xm bk ‹_› h
 .exact Xp bk ‹_› h
 .rename_i T bE ai
  split at h
  .rename_i lh;exact Xy bk ai h lh
  .exact h.elim
 .rename_i T n bE hn ai;exact XA bk ai hn h
 .exact XB bk ‹_› h
 .exact XC bk ‹_› h
 .rename_i ai
  split at h
  .rename_i hx;exact XI bk ai hx h
  .rename_i c o hx
   split at h
   .rename_i Yv;have:=ap8 Yv;subst this;exact XR bk ai hx h
   .exact h.elim
  .exact XE bk ai h
 .exact XQ bk ‹_› h
 .exact XF bk ‹_› h
 .exact XN bk ‹_› h
 .exact XO bk ‹_› h
 .exact XU bk ‹_› h
 .exact Yo ‹_› h
 .exact XW bk ‹_› h
 .rename_i c ai
  split at h
  .rename_i f E;exact OO ai E rfl h
  .rename_i t E
   split at h
   .rename_i f l ak;exact Yq ai E rfl ak h
   .rename_i x ak;exact Yr ai E rfl ak h
   .exact h.elim
  .rename_i x E G
   split at h
   .rename_i T b4;exact Ys bk ai E G b4 h
   .exact h.elim
  .rename_i x y E G
   split at h
   .rename_i T eL b4;exact XP bk ai E G b4 h
   .exact h.elim
  .rename_i x y E G;refine OS (bi:=.min) (.inl rfl) ai E G ?_;simp only[vj rfl];exact h
  .rename_i x y E G;refine OS (bi:=.max) (.inr rfl) ai E G ?_;simp only[reduceCtorEq,if_false];exact h
  .rename_i x y E G
   split at h
   .rename_i T eL b4
    split at h
    .exact Eh h
    .exact Yn bk ai E G b4 h
   .exact h.elim
  .rename_i x y E G
   split at h
   .rename_i T eL b4
    split at h
    .rename_i U;have:=ap8 U;subst this;exact X1 bk ai E G b4 h
    .exact X9 bk ai E G b4 h
   .exact h.elim
  .exact Eh h
 .exact Eh h
def Iu (bk:d5 P aQ) (h:DV P aQ ids o K B k):cI P N ids o K B k:=by
 unfold DV at h
 split at h
 .exact Eh h
 .exact Yu bk h
end
end
end Go.Proofs.YtgclhiekndohdaaGreat
