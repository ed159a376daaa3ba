/-
A part of the proof of this claim: lemmas, with no condition beyond what each says.
-/
import Derived.WalkKit
import Derived.WalkSpells
import Derived.WalkLawsBesides
import Derived.BigQuiet
import Derived.Deep.QuietTactic
import Derived.Deep.RegionHeld3
import Derived.Deep.AppendLies
import Derived.Deep.DrawnRows
import Derived.Maps.AppendAt
import Derived.Laws.CopyOwn
import Derived.Lib.ConvBytes
import Derived.Lib.Hide
import Derived.RangeFuncRecord
import Derived.OrdersIn
import Derived.TacticsIn
import Derived.Sort.LoopGhostIn
import Derived.MapKept
import Derived.ChangeMaps4
set_option linter.unusedVariables false
set_option linter.unusedSimpArgs false
set_option maxRecDepth 10000
set_option maxHeartbeats 4000000
namespace Go.Proofs.YtkfbeijmgggkmaaGreat
abbrev gd:=@of_decide_eq_true
abbrev mu:=@of_decide_eq_false
abbrev oj:=@List.getElem?_eq_getElem
abbrev vj:=@Bool.and_eq_true
abbrev aq4:=@Nat.le_refl
abbrev aq5:=@List.length_append
abbrev aq6:=@List.mem_cons_of_mem
abbrev aq7:=@List.mem_cons
abbrev aq8:=@Option.some.injEq
abbrev aq9:=@Nat.zero_le
abbrev ar0:=@Nat.eq_of_beq_eq_true
abbrev ar1:=@List.getElem?_eq_some_iff
abbrev ar2:=@List.getD_eq_getElem?_getD
abbrev ar3:=@List.length_take
abbrev ar4:=@List.mem_cons_self
abbrev ar5:=@List.mem_singleton
abbrev ar6:=@decide_eq_true
abbrev ar7:=@List.length_map
abbrev ar8:=@List.map_cons
abbrev ar9:=@List.getElem?_cons_zero
abbrev as0:=@List.mem_map_of_mem
abbrev as1:=@decide_eq_true_eq
abbrev as2:=@List.take_length
abbrev as3:=@List.getElem_mem
abbrev as4:=@List.mem_append
abbrev as5:=@List.mem_map
abbrev as6:=@List.getElem?_map
abbrev as7:=@List.map_congr_left
abbrev as8:=@List.getElem?_append_left
abbrev as9:=@List.all_eq_true
abbrev at0:=@List.nodup_cons
abbrev at1:=@List.length_replicate
abbrev at2:=@List.contains_iff_mem
abbrev at3:=@decide_eq_false
abbrev at4:=@List.getElem?_append_right
abbrev at5:=@Option.isSome_iff_exists
abbrev at6:=@Option.map_eq_some_iff
abbrev at7:=@List.take_succ_eq_append_getElem
abbrev at8:=@List.map_map
abbrev at9:=@List.map_append
abbrev au0:=@List.append_nil
abbrev au1:=@List.length_cons
abbrev au2:=@List.append_assoc
abbrev au3:=@List.length_drop
abbrev au4:=@Nat.le_trans
abbrev au5:=@Option.map_some
abbrev au6:=@Prod.mk.injEq
abbrev au7:=@List.nodup_nil
abbrev au8:=@Bool.eq_false_iff
abbrev au9:=@List.getElem?_eq_none
abbrev av0:=@List.mem_filter
abbrev av1:=@List.flatMap_cons
abbrev av2:=@List.mem_of_find?_eq_some
abbrev av3:=@List.foldl_append
abbrev av4:=@List.map_nil
abbrev av5:=@Nat.not_lt_zero
abbrev av6:=@Option.isNone_iff_eq_none
abbrev av7:=@List.getElem?_cons_succ
abbrev av8:=@List.nil_append
abbrev av9:=@Int.ediv_nonneg
theorem aw0 {p:Prop} (h:p:=by omega):p:=h
theorem aw1 {p:Prop} (h:p:=by decide):p:=h
theorem aw2 {p:Prop} (h:p:=by simp):p:=h
theorem aw3 {p:Prop} (h:p:=by kernel_rfl):p:=h
theorem aw4 {p:Prop} (h:p:=by rfl):p:=h
theorem aw6 {p:Prop} (h:p:=by assumption):p:=h
theorem aw7 {p:Prop} (h:p:=by rw[ag];simp[Op.operands]):p:=h
theorem aw8 {p:Prop} (h:p:=by omega):p:=h
theorem aw9 {p:Prop} (h:p:=by simpa using h):p:=h
theorem ax0 {p:Prop} (h:p:=by cases h):p:=h
theorem ax1 {p:Prop} (h:p:=by rw[ag];simp[Op.operands,Call.operands]):p:=h
theorem ax2 {p:Prop} (h:p:=by rw[gl];decide):p:=h
theorem ax3 {p:Prop} (h:p:=by exact az):p:=h
theorem ax4 {p:Prop} (h:p:=by simp;omega):p:=h
theorem ax5 {p:Prop} (h:p:=by rw[h'];intro h;cases h):p:=h
theorem ax6 {p:Prop} (h:p:=by rw[cd,if_pos rfl]):p:=h
theorem ax7 {p:Prop} (h:p:=by rw[ar3];omega):p:=h
theorem ax8 {p:Prop} (h:p:=by rw[hx];intro h;cases h):p:=h
theorem ax9 {p:Prop} (h:p:=by have:=mu J;omega):p:=h
theorem ay0 {p:Prop} (h:p:=by simpa using V):p:=h
theorem ay1 {p:Prop} (h:p:=by simpa using aA):p:=h
theorem ay2 {p:Prop} (h:p:=by have:=gd J;omega):p:=h
theorem ay3 {p:Prop} (h:p:=by simp[bC.has,Nat.beq_eq]):p:=h
theorem ay4 {p:Prop} (h:p:=by simp only[maxLen];omega):p:=h
theorem ay5 {p:Prop} (h:p:=by unfold cl;rw[H]):p:=h
theorem ay6 {p:Prop} (h:p:=by rw[cu];omega):p:=h
theorem ay7 {p:Prop} (h:p:=by exact oq hx):p:=h
theorem ay8 {p:Prop} (h:p:=by simpa using E):p:=h
theorem ay9 {p:Prop} (h:p:=by simp[aS] at V;exact V):p:=h
theorem az0 {p:Prop} (h:p:=by rw[Int.toNat_natCast,Int.natCast_mul]):p:=h
theorem az1 {p:Prop} (h:p:=by simp only[execOp,ag,Sem.run_bind,af,ao,aC,Result.andThen_ok,Sem.run_pure]):p:=h
theorem az2 {p:Prop} (h:p:=by rw[BitVec.toNat_ofInt];omega):p:=h
theorem az3 {p:Prop} (h:p:=by simp at h;omega):p:=h
theorem az4 {p:Prop} (h:p:=by rw[j6,av];rfl):p:=h
theorem az5 {p:Prop} (h:p:=by simpa using hx):p:=h
theorem az6 {p:Prop} (h:p:=by simp[U]):p:=h
theorem az7 {p:Prop} (h:p:=by rw[h.fq.eN];exact J):p:=h
theorem az8 {p:Prop} (h:p:=by simpa using ap):p:=h
theorem az9 {p:Prop} (h:p:=by rw[af];generalize 2 ^z=P at*;omega):p:=h
abbrev aA0:=List UInt8
abbrev aA1:=List Nat
end Go.Proofs.YtkfbeijmgggkmaaGreat
namespace Go.Proofs.YtkfbeijmgggkmaaGreat
open Go.RowKit Go.Proofs
section
structure cP (S:Nat->Prop) (w w':World):Prop where
 os:w'.os=w.os
 tape:w'.tape=w.tape
 output:w'.output=w.output
 size:w.heap.size<=w'.heap.size
 block: ∀k,k < w.heap.size-> ¬S k->w'.heap[k]? =w.heap[k]?
theorem cP.refl (S:Nat->Prop) (w:World):cP S w w:=⟨rfl,rfl,rfl,aq4 _,fun _ _ _=>rfl⟩
theorem cP.trans {S:Nat->Prop} {a b c:World} (h:cP S a b) {S':Nat->Prop} (k:cP S' b c) (ax: ∀i,i < a.heap.size->S' i->S i):cP S a c:=
 ⟨k.os.trans h.os,k.tape.trans h.tape,k.output.trans h.output,au4 h.size k.size,
  fun i aG hn=>(k.block i (Nat.lt_of_lt_of_le aG h.size) (fun x=>hn (ax i aG x))).trans (h.block i aG hn)⟩
theorem cP.mono {S S':Nat->Prop} {w w':World} (h:cP S w w') (ax: ∀i,i < w.heap.size->S i->S' i):cP S' w w':=
 ⟨h.os,h.tape,h.output,h.size,fun i aG hn=>h.block i aG (fun x=>hn (ax i aG x))⟩
theorem cP.oR {S:Nat->Prop} {w w':World} (h:Below w.heap.size w w'):cP S w w':=
 ⟨h.os,h.tape,h.output,h.size,fun i aG _=>h.block i aG⟩
theorem cP.below {S:Nat->Prop} {B:Nat} {w w':World} (h:cP S w w') (dy:B<=w.heap.size) (ax: ∀i,i < B-> ¬S i):Below B w w':=
 ⟨h.os,h.tape,h.output,h.size,fun i aG=>h.block i aw0 (ax i aG)⟩
theorem cP.cell {S:Nat->Prop} {w w':World} (h:cP S w w') {p:Addr} {v:Value} (ae:w.cell? p=some v) (ax: ¬S p.block):w'.cell? p=some v:=
 (World.cell?_of_block (h.block p.block (World.block_lt_of_cell? w p ae) ax)).trans ae
theorem me {w:World} {b:Nat} {o:Obj} (h:w.heap[b]? =some o):b < w.heap.size:=by
 rcases Nat.lt_or_ge b w.heap.size with bx |vQ
 .exact bx
 .rw[Array.getElem?_eq_none vQ] at h;cases h
def fF (D:Nat->Prop) (w:World) (size:Nat) (v:Value) (n:Nat) (xs:List Value):Prop:=
 xs.length=n*size/\ ∃A c,v= .slice A n c/\n<=c/\c<=maxLen/\
  (0 < n-> ∃b o,A=some ⟨b,o,none⟩/\D b/\b < w.heap.size/\ ∀j u,xs[j]? =some u->w.cell? ⟨b,o+j,none⟩=some u)
def ri (D:Nat->Prop) (w w':World):Prop:= ∀i,i < w.heap.size->D i->w'.heap[i]? =w.heap[i]?
theorem ri.refl (D:Nat->Prop) (w:World):ri D w w:=fun _ _ _=>rfl
theorem ri.cell {D:Nat->Prop} {w w':World} (h:ri D w w') {p:Addr} {v:Value} (ae:w.cell? p=some v) (ax:D p.block):w'.cell? p=some v:=
 (World.cell?_of_block (h p.block (World.block_lt_of_cell? w p ae) ax)).trans ae
theorem ri.oR {D:Nat->Prop} {w w':World} (h:Below w.heap.size w w'):ri D w w':=fun i aG _=>h.block i aG
theorem fF.mono {D vR:Nat->Prop} {w w':World} {size n:Nat} {v:Value} {xs:List Value} (h:fF D w size v n xs) (Z:ri D w w') (hw:w.heap.size<=w'.heap.size) (H: ∀i,i < w.heap.size->D i->vR i):fF vR w' size v n xs:=by
 obtain⟨ap,A,c,rfl,E,G,al⟩:=h;refine⟨ap,A,c,rfl,E,G,fun hn=>?_⟩;obtain⟨b,o,rfl,cp,O,J⟩:=al hn;exact⟨b,o,rfl,H b O cp,aw0,fun j u V=>Z.cell (J j u V) cp⟩
theorem fF.nil (D:Nat->Prop) (w:World) (size:Nat):fF D w size (.slice none 0 0) 0 []:=⟨aw2,none,0,rfl,aq4 _,aw1,fun h=>absurd h aw0⟩
theorem fF.at_ {D:Nat->Prop} {w:World} {size n:Nat} {v:Value} {xs:List Value} (h:fF D w size v n xs) (hn:0 < n):
  ∃b o c,v= .slice (some ⟨b,o,none⟩) n c/\n<=c/\c<=maxLen/\D b/\b < w.heap.size/\ ∀j u,xs[j]? =some u->w.cell? ⟨b,o+j,none⟩=some u:=by
 obtain⟨ap,A,c,rfl,E,G,al⟩:=h;obtain⟨b,o,rfl,cp,O,J⟩:=al hn;exact⟨b,o,c,rfl,E,G,cp,O,J⟩
def ij (c:UInt8):Value:=.int .u8 c.toNat
def mf (D:Nat->Prop) (w:World) (v:Value) (l:aA0):Prop:=fF D w 1 v l.length (l.map ij)
theorem mf.mono {D vR:Nat->Prop} {w w':World} {v:Value} {l:aA0} (h:mf D w v l) (Z:ri D w w') (hw:w.heap.size<=w'.heap.size) (H: ∀i,i < w.heap.size->D i->vR i):mf vR w' v l:=fF.mono h Z hw H
theorem mf.form {D:Nat->Prop} {w:World} {v:Value} {l:aA0} (h:mf D w v l): ∃A c,v= .slice A l.length c/\l.length<=c/\c<=maxLen:=by
 obtain⟨_,A,c,rfl,E,G,_⟩:=h;exact⟨A,c,rfl,E,G⟩
theorem qk (b o j:Nat):(⟨b,o,none⟩:Addr).add j=⟨b,o+j,none⟩:=by
 unfold Addr.add
 split
 .rename_i h;subst h;rfl
 .rfl
theorem Yl {P:Program} (w:World) (base:Nat) (t ty e:TypeId) (i:TypeInfo) (size:Nat) (cn:P.underlying t=some (.slice e)) (aG:P.info? e=some i)
  (v:Value) (n:Nat) (xs:List Value) (dC:w.ownsRow base e size v n xs) (c:Nat):(Builtin.append_ #[t,t] ty #[v,.slice none 0 c]).run P w= .ok v w:=by
 rcases dC.2 with⟨rfl,rfl⟩ |⟨g,cap,df,rfl,_,_,EF,_⟩
 .simp[Builtin.append_,run_underlying cn,sizeOf,typeInfo,aG,Builtin.lenOf,Builtin.firstCells]
 .simp[Builtin.append_,run_underlying cn,sizeOf,typeInfo,aG,Builtin.lenOf,Builtin.firstCells,EF,storeCells]
theorem I0 {P:Program} (w:World) (base:Nat) (t ty e:TypeId) (i:TypeInfo) (aB:Value) (size bytes:Nat) (cn:P.underlying t=some (.slice e)) (aG:P.info? e=some i) (aR:i.zero=some aB)
  (zr:i.size=size) (un:i.bytes=bytes) (nT:aB.cells.size=size) (cu:0 < size)
  (v:Value) (n:Nat) (xs:List Value) (dC:w.ownsRow base e size v n xs)
  (D:Nat->Prop) (ik:Value) (m:Nat) (e2:List Value) (aC:fF D w size ik m e2) (E: ∀u∈e2,u.oneCell'=true)
  (BE:n+m<=maxLen) (BF:(n+m)*bytes<=140737488355328) (BG:base<=w.heap.size):
  ∃da w',(Builtin.append_ #[t,t] ty #[v,ik]).run P w= .ok da w'/\w'.ownsRow base e size da (n+m) (xs++e2)/\w.grownBy w' v.ownBlock/\
   (da.ownBlock=v.ownBlock\/da.ownBlock=some w.heap.size):=by
 obtain⟨ap,A,c,rfl,_,_,al⟩:=aC;rcases A with _ |ad
 .have aw:m=0:=by
   rcases Nat.eq_zero_or_pos m with av |av
   .exact av
   .obtain⟨b,o,h,_⟩:=al av
    cases h
  subst aw;have hn:e2=[]:=List.eq_nil_of_length_eq_zero az8;subst hn;exact⟨v,w,Yl w base t ty e i size cn aG v n xs dC c,by simpa using dC,World.grownBy.refl w _,.inl rfl⟩
 .have xm: ∀j u,e2[j]? =some u->w.cell? (ad.add j)=some u:=by
   intro j u a8;rcases Nat.eq_zero_or_pos m with av |av
   .subst av;have hn:e2=[]:=List.eq_nil_of_length_eq_zero az8;subst hn;simp at a8
   .obtain⟨b,o,h,_,_,J⟩:=al av;injection h with h
    subst h;rw[qk];exact J j u a8
  obtain⟨da,w',dW,G,aW,_,bG⟩:=run_append_own_at (P:=P) w base t ty e i aB size bytes cn aG aR zr un nT cu v n xs dC ad m c e2 ap xm E BE BF BG;exact⟨da,w',dW,G,aW,bG⟩
theorem Ym {P:Program} (w:World) {o:Oper} {a:Act} {K:Act->World->Prop} {Q:Exit->Act->World->Prop} (s x:Operand) (t:TypeId)
  (ag:o.op= .call {callee:=.builtin .append,args:= #[s,x],argTypes:= #[t,t]})
  (base:Nat) (e:TypeId) (aB:Value) (size bytes:Nat) (cn:P.underlying t=some (.slice e)) (ql:(P.info? e).map (fun i=>(i.zero,i.size,i.bytes))=some (some aB,size,bytes)) (nT:aB.cells.size=size) (cu:0 < size)
  (v:Value) (n:Nat) (xs:List Value) (ax:a.eval s=v) (dC:w.ownsRow base e size v n xs)
  (D:Nat->Prop) (ik:Value) (m:Nat) (e2:List Value) (hx:a.eval x=ik) (aC:fF D w size ik m e2) (E: ∀u∈e2,u.oneCell'=true)
  (BE:n+m<=maxLen) (BF:(n+m)*bytes<=140737488355328) (BG:base<=w.heap.size)
  (h: ∀da w',w'.ownsRow base e size da (n+m) (xs++e2)->w.grownBy w' v.ownBlock->(da.ownBlock=v.ownBlock\/da.ownBlock=some w.heap.size)->K (a.put o.dst da) w'):o.wp P a w K Q:=by
 obtain⟨i,aG,aR,zr,un⟩:=info_parts ql;obtain⟨da,w',dW,G,al,aW⟩:=I0 (P:=P) w base t o.type e i aB size bytes cn aG aR zr un nT cu v n xs dC D ik m e2 aC E BE BF BG;unfold Oper.wp execOp;simp only[ag,resolve,invoke,builtin,Sem.run_bind,Sem.run_pure,Result.andThen_ok,List.map_toArray,ar8,av4,ax,hx,dW];exact h da w' G al aW
theorem Pa {P:Program} (w:World) {dg:Array Oper} {rest:List Oper} {o:Oper} {a:Act} {Q:Exit->Act->World->Prop} (uo:o.guard=none) (s x:Operand) (t:TypeId)
  (ag:o.op= .call {callee:=.builtin .append,args:= #[s,x],argTypes:= #[t,t]})
  (base:Nat) (e:TypeId) (aB:Value) (size bytes:Nat) (cn:P.underlying t=some (.slice e)) (ql:(P.info? e).map (fun i=>(i.zero,i.size,i.bytes))=some (some aB,size,bytes)) (nT:aB.cells.size=size) (cu:0 < size)
  (v:Value) (n:Nat) (xs:List Value) (ax:a.eval s=v) (dC:w.ownsRow base e size v n xs)
  (D:Nat->Prop) (ik:Value) (m:Nat) (e2:List Value) (hx:a.eval x=ik) (aC:fF D w size ik m e2) (E: ∀u∈e2,u.oneCell'=true)
  (BE:n+m<=maxLen) (BF:(n+m)*bytes<=140737488355328) (BG:base<=w.heap.size)
  (h: ∀da w',w'.ownsRow base e size da (n+m) (xs++e2)->w.grownBy w' v.ownBlock->(da.ownBlock=v.ownBlock\/da.ownBlock=some w.heap.size)->wpList P dg Q rest (a.put o.dst da) w'):wpList P dg Q (o::rest) a w:=
 wpList_plain uo fun _ dq=>Ym w s x t ag base e aB size bytes cn ql nT cu v n xs ax dC D ik m e2 hx aC E BE BF BG fun da w' G al aW=>dq _ _ (h da w' G al aW)
theorem Pb (l:aA0): ∀u∈l.map ij,u.oneCell'=true:=by
 intro u a8;obtain⟨c,_,rfl⟩:=as5.1 a8;rfl
theorem fF.sm {w:World} {base:Nat} {e:TypeId} {size n:Nat} {v:Value} {xs:List Value} (h:w.ownsRow base e size v n xs):fF (fun i=>v.ownBlock=some i) w size v n xs:=by
 refine⟨h.1,?_⟩;rcases h.2 with⟨rfl,rfl⟩ |⟨g,cap,df,rfl,aY,bj,E,G,al,aW⟩
 .exact⟨none,0,rfl,aq4 _,aw1,fun h=>absurd h aw0⟩
 .refine⟨_,cap,rfl,E,G,fun _=>⟨g,0,rfl,rfl,(h.lt g rfl).2,fun j u V=>?_⟩⟩;have:=h.cells (g:=g) rfl j u V
  rwa[qk] at this
theorem fF.zs {D vR:Nat->Prop} {w:World} {size n:Nat} {v:Value} {xs:List Value} (h:fF D w size v n xs) (H: ∀i,i < w.heap.size->D i->vR i):fF vR w size v n xs:=h.mono (ri.refl _ _) (aq4 _) H
theorem dZ {W d0:World} (O:Below W.heap.size W d0) {p:Addr} {v:Value} (h:W.cell? p=some v):d0.cell? p=some v:=
 (O.cell (World.block_lt_of_cell? W p h)).trans h
theorem mf.below {D:Nat->Prop} {w w':World} {v:Value} {l:aA0} (h:mf D w v l) (O:Below w.heap.size w w'):mf D w' v l:=
 h.mono (ri.oR O) O.size fun _ _ h=>h
theorem fF.below {D:Nat->Prop} {w w':World} {size n:Nat} {v:Value} {xs:List Value} (h:fF D w size v n xs) (O:Below w.heap.size w w'):fF D w' size v n xs:=
 h.mono (ri.oR O) O.size fun _ _ h=>h
theorem ts (w:World) (o:Obj):Below w.heap.size w (w.alloc o):=(Below.refl _ _).alloc (aq4 _) _
theorem Yn (w:World):Below w.heap.size w w.drew:=(Below.refl _ _).drew
def aN (B:Nat) (v:Value):Nat->Prop:=fun i=>B<=i/\v.ownBlock≠some i
theorem fF.drew {D:Nat->Prop} {w:World} {size n:Nat} {v:Value} {xs:List Value} (h:fF D w size v n xs):fF D w.drew size v n xs:=h
theorem Pc {w w':World} {row:Option Nat} {S:Nat->Prop} (aY:w.grownBy w' row) (aC: ∀k,row=some k->S k):cP S w w':=
 ⟨aY.os,aY.tape,aY.output,aY.size,fun k Z hn=>aY.block k Z (fun e=>hn (aC k e.symm))⟩
theorem Yo {D:Nat->Prop} {w:World} {m:Nat} {ik:Value} {ys:List Value} (h:fF D w 1 ik m ys) (up:Nat):
  ∃sp EG,ik= .slice sp m EG/\(ys.take up).length=Nat.min m up/\(0 < (ys.take up).length-> ∃ad,sp=some ad/\ ∀j v,(ys.take up)[j]? =some v->w.cell? (ad.add j)=some v):=by
 obtain⟨ap,A,c,rfl,_,_,al⟩:=h;have qm:ys.length=m:=aw8
 have BH:(ys.take up).length=Nat.min m up:=by rw[ar3,qm];exact Nat.min_comm _ _
 refine⟨A,c,rfl,BH,fun ae=>?_⟩
 have aw:0 < m:=by
  have:=Nat.min_le_left m up;have e:min m up=Nat.min m up:=rfl;omega
 obtain⟨b,o,rfl,_,_,J⟩:=al aw;refine⟨_,rfl,fun j v V=>?_⟩;rw[qk];refine J j v ?_;rw[List.getElem?_take] at V
 split at V
 .exact V
 .cases V
theorem Yp {P:Program} (w:World) (ik dst e:TypeId) (s:ByteArray) (ax:P.underlying ik=some .string) (H:P.underlying dst=some (.slice e)) (U:P.underlying e=some (.int .u8)) (aw:s.size<=4294967296):
  ∃cap d0,(convert ik dst (.string s)).run P w= .ok (.slice (some ⟨w.heap.size,0,none⟩) s.size cap) d0/\mf (fun i=>w.heap.size<=i) d0 (.slice (some ⟨w.heap.size,0,none⟩) s.size cap) s.data.toList/\Below w.heap.size w d0:=by
 refine⟨_,_,Lib.run_convert_string_bytes w ik dst e s ax H U,?_,?_⟩
 .have ap:s.data.toList.length=s.size:=by simp
  unfold mf;rw[ap];refine⟨by rw[ar7,ap];omega,_,_,rfl,grownCap_ge _ _ _ _,grownCap_le_maxLen _ _ _ _ ay4,fun _=>⟨_,0,rfl,aq4 _,by rw[Lib.bytesWorld_size];omega,fun j u V=>?_⟩⟩
  have sn:j < s.data.toList.length:=by
   have:=(ar1.1 V).1;simpa using this
  rw[Nat.zero_add,Lib.bytesWorld_cell w e s j aw0];rw[as6,oj sn] at V;simp only[au5,aq8] at V;rw[<-V,ar2,oj sn];rfl
 .exact⟨rfl,rfl,rfl,by rw[Lib.bytesWorld_size];omega,fun k Z=>Lib.bytesWorld_at_old w e s k Z⟩
theorem Pd {P:Program} {D:Nat->Prop} {w:World} {A:Option Addr} {n c:Nat} {l:aA0} (h:mf D w (.slice A n c) l) (ik dst e:TypeId) (ax:P.underlying ik=some (.slice e)) (U:P.underlying e=some (.int .u8)) (H:P.underlying dst=some .string):
  (convert ik dst (.slice A n c)).run P w= .ok (.string ⟨l.toArray⟩) w:=by
 obtain⟨ap,A',b7,aA,_,_,al⟩:=h;injection aA with af ao bm
 subst af ao bm;rcases A with _ |ad
 .have av:l=[]:=by
   rcases Nat.eq_zero_or_pos l.length with h |h
   .exact List.eq_nil_of_length_eq_zero h
   .obtain⟨b,o,ha,_⟩:=al h;cases ha
  subst av;exact run_convert_bytes_nil w ik e ax U _ _ dst H
 .refine run_convert_bytes_back w ik dst e ad _ l ax U H fun j V=>?_
  obtain⟨b,o,ha,_,_,J⟩:=al aw0;injection ha with ha
  subst ha;rw[qk];exact J j _ (by simp[oj V,ij])
theorem I1 {w:World} (o:Obj) {g:Nat} (h:g=w.heap.size):(w.alloc o).heap[g]? =some o:=by subst h;exact heap_alloc_new w o
end
section
inductive bA where
 |int (k:IntKind)
 |u8
 |bool
 |str
 |aL
 |dL
 |fn
 |b4 (u:bA)
 |bK (u v:bA)
 |arr (n:Nat) (u:bA)
def aa:bA->Type
 | .int _=>Int
 | .u8=>UInt8
 | .bool=>Bool
 | .str=>aA0
 | .aL=>Option Nat
 | .dL=>Option (Nat×Nat×Nat)
 | .fn=>Nat×aA1
 | .b4 u=>List (aa u)
 | .bK u v=>aa u×aa v
 | .arr _ u=>List (aa u)
def aS:bA->Nat
 | .int _=>1
 | .u8=>1
 | .bool=>1
 | .str=>1
 | .aL=>1
 | .dL=>1
 | .fn=>1
 | .b4 _=>1
 | .bK u v=>aS u+aS v
 | .arr n u=>n*aS u
def cL:(u:bA)->aa u
 | .int _=>(0:Int)
 | .u8=>(0:UInt8)
 | .bool=>false
 | .str=>([]:aA0)
 | .aL=>(none:Option Nat)
 | .dL=>(none:Option (Nat×Nat×Nat))
 | .fn=>((0,[]):Nat×aA1)
 | .b4 _=>[]
 | .bK u v=>(cL u,cL v)
 | .arr n u=>List.replicate n (cL u)
inductive D where
 |int (k:IntKind) (n:Int)
 |lit (b:Bool)
 |bool (b:Bool)
 |str (s:aA0)
 |aL (x:Option Nat)
 |dL (x:Option (Nat×Nat×Nat))
 |fn (x:Nat×aA1)
 |cf (u:bA) (xs:List (aa u))
def fM:(u:bA)->aa u->Nat->D
 | .int k,n,_=>.int k n
 | .u8,b,_=>.int .u8 (UInt8.toNat b:Int)
 | .bool,b,_=>.bool b
 | .str,s,_=>.str s
 | .aL,x,_=>.aL x
 | .dL,x,_=>.dL x
 | .fn,x,_=>.fn x
 | .b4 u,xs,_=>.cf u xs
 | .bK u v,p,j=>match Nat.blt j (aS u) with
  |true=>fM u p.1 j
  |false=>fM v p.2 (j - aS u)
 | .arr _ u,xs,j=>fM u (List.getD xs (j/aS u) (cL u)) (j % aS u)
def fz {α:Type} (xs:List α) (i:Nat):Option α:=xs[i]?
def EH {α:Type} (x:α) (xs:List α):Prop:=x∈xs
theorem Yq {α:Type} (xs:List α) (i:Nat) (d:α) (h:i < xs.length):fz xs i=some (xs.getD i d):=by
 unfold fz;rw[ar2,oj h];rfl
theorem Yr {α:Type} {xs:List α} {i:Nat} {y:α} (d:α) (h:fz xs i=some y):xs.getD i d=y:=by
 unfold fz at h;rw[ar2,h];rfl
theorem BI {α:Type} {xs:List α} {i:Nat} {y:α} (h:fz xs i=some y):i < xs.length:=(ar1.1 h).1
theorem Ys {α:Type} {xs:List α} {i:Nat} {y:α} (h:fz xs i=some y):EH y xs:=List.mem_of_getElem? h
def oS:(u:bA)->aa u->Prop
 | .bK u v,p=>oS u p.1/\oS v p.2
 | .arr n u,xs=>List.length xs=n/\ ∀x,EH (α:=aa u) x xs->oS u x
 |_,_=>True
def nU:Option Nat->Option Addr
 |none=>none
 |some b=>some ⟨b,0,none⟩
def rj:Option (Nat×Nat×Nat)->Value
 |none=>.slice none 0 0
 |some (b,n,cap)=>.slice (some ⟨b,0,none⟩) n cap
def rk:aA1->List Value
 | []=>[]
 |b::l=>.pointer (some ⟨b,0,none⟩)::rk l
def mL (x:Nat×aA1):Value:=.func (.func x.1) #[] (List.toArray (rk x.2))
def cq (I:Nat->Prop) (w:World):(u:bA)->aa u->(Nat->Option Value)->Prop
 | .int k,n,c=>c 0=some (.int k n)
 | .u8,b,c=>c 0=some (.int .u8 (UInt8.toNat b:Int))
 | .bool,b,c=>c 0=some (.bool b)
 | .str,s,c=>c 0=some (.string ⟨List.toArray s⟩)
 | .aL,x,c=>c 0=some (.pointer (nU x))
 | .dL,x,c=>c 0=some (rj x)
 | .fn,x,c=>c 0=some (mL x)
 | .b4 u,xs,c=> ∃A cap,c 0=some (.slice A (List.length xs) cap)/\List.length xs<=cap/\cap<=maxLen/\
  (0 < List.length xs-> ∃b o,A=some ⟨b,o,none⟩/\I b/\ ∀i x,fz (α:=aa u) xs i=some x->cq I w u x (fun j=>w.cell? ⟨b,o+(i*aS u+j),none⟩))
 | .bK u v,p,c=>cq I w u p.1 c/\cq I w v p.2 (fun j=>c (aS u+j))
 | .arr n u,xs,c=>List.length xs=n/\ ∀i x,fz (α:=aa u) xs i=some x->cq I w u x (fun j=>c (i*aS u+j))
def gP (I:Nat->Prop) (w:World):D->Value->Prop
 | .int k n,v=>v= .int k n
 | .lit b,v=>v= .bool b
 | .bool b,v=>v= .bool b
 | .str s,v=>v= .string ⟨s.toArray⟩
 | .aL x,v=>v= .pointer (nU x)
 | .dL x,v=>v=rj x
 | .fn x,v=>v=mL x
 | .cf u xs,v=>cq I w (.b4 u) xs (fun _=>some v)
def cj (I:Nat->Prop) (w:World) (I':Nat->Prop) (w':World):Prop:= ∀b,I b->I' b/\w'.heap[b]? =w.heap[b]?
section
variable {I I':Nat->Prop} {w w':World}
theorem cj.refl (I:Nat->Prop) (w:World):cj I w I w:=fun _ h=>⟨h,rfl⟩
theorem cj.trans {Pe:Nat->Prop} {Pf:World} (h:cj I w I' w') (k:cj I' w' Pe Pf):cj I w Pe Pf:=fun b O=>⟨(k b (h b O).1).1,(k b (h b O).1).2.trans (h b O).2⟩
theorem Pg {b o:Nat} {v:Value} (h:w'.heap[b]? =w.heap[b]?) (J:w.cell? ⟨b,o,none⟩=some v):w'.cell? ⟨b,o,none⟩=some v:=
 (World.cell?_of_block (a:=⟨b,o,none⟩) h).trans J
theorem cq.mono (U:cj I w I' w'): ∀(u:bA) (x:aa u) (c b7:Nat->Option Value),(∀j v,c j=some v->b7 j=some v)->cq I w u x c->cq I' w' u x b7:=by
 intro u
 induction u with
 |int k=>exact fun x c b7 J h=>J _ _ h
 |u8=>exact fun x c b7 J h=>J _ _ h
 |bool=>exact fun x c b7 J h=>J _ _ h
 |str=>exact fun x c b7 J h=>J _ _ h
 |aL=>exact fun x c b7 J h=>J _ _ h
 |dL=>exact fun x c b7 J h=>J _ _ h
 |fn=>exact fun x c b7 J h=>J _ _ h
 |b4 u bu=>
  rintro x c b7 J ⟨A,cap,av,E,G,al⟩;refine⟨A,cap,J _ _ av,E,G,fun ap=>?_⟩;obtain⟨b,o,d5,a2,hx⟩:=al ap;exact⟨b,o,d5,(U b a2).1,fun i y aD=>bu _ _ _ (fun j v aA=>Pg (U b a2).2 aA) (hx i y aD)⟩
 |bK u v oT oU=>exact fun x c b7 J h=>⟨oT _ _ _ J h.1,oU _ _ _ (fun j v aA=>J _ _ aA) h.2⟩
 |arr n u bu=>exact fun x c b7 J h=>⟨h.1,fun i y aD=>bu _ _ _ (fun j v aA=>J _ _ aA) (h.2 i y aD)⟩
theorem gP.mono (U:cj I w I' w'): ∀(x:D) (v:Value),gP I w x v->gP I' w' x v
 | .int _ _,_,h=>h
 | .lit _,_,h=>h
 | .bool _,_,h=>h
 | .str _,_,h=>h
 | .aL _,_,h=>h
 | .dL _,_,h=>h
 | .fn _,_,h=>h
 | .cf u xs,v,h=>cq.mono U (.b4 u) xs (fun _=>some v) (fun _=>some v) (fun _ _ h=>h) h
theorem EI {j n s:Nat} (h:j < n*s):j/s < n/\j % s < s/\j/s*s+j % s=j:=by
 have ax:0 < s:=by
  rcases Nat.eq_zero_or_pos s with av |av
  .subst av;simp at h
  .exact av
 exact⟨(Nat.div_lt_iff_lt_mul ax).2 h,Nat.mod_lt _ ax,by rw[Nat.mul_comm];exact Nat.div_add_mod j s⟩
theorem cq.cell: ∀(u:bA) (x:aa u) (c:Nat->Option Value) (j:Nat),cq I w u x c->j < aS u-> ∃v,c j=some v/\gP I w (fM u x j) v:=by
 intro u
 induction u with
 |int k=>exact fun x c j h V=>⟨_,(by
       have:j=0:=ay9
       subst this;exact h),rfl⟩
 |u8=>exact fun x c j h V=>⟨_,(by
    have:j=0:=ay9
    subst this;exact h),rfl⟩
 |bool=>exact fun x c j h V=>⟨_,(by
      have:j=0:=ay9
      subst this;exact h),rfl⟩
 |str=>exact fun x c j h V=>⟨_,(by
     have:j=0:=ay9
     subst this;exact h),rfl⟩
 |aL=>exact fun x c j h V=>⟨_,(by
     have:j=0:=ay9
     subst this;exact h),rfl⟩
 |dL=>exact fun x c j h V=>⟨_,(by
     have:j=0:=ay9
     subst this;exact h),rfl⟩
 |fn=>exact fun x c j h V=>⟨_,(by
    have:j=0:=ay9
    subst this;exact h),rfl⟩
 |b4 u _=>
  intro x c j h V;have:j=0:=ay9
  subst this;obtain⟨A,cap,av,E⟩:=h;exact⟨_,av,A,cap,rfl,E⟩
 |bK u v oT oU=>
  intro x c j h V;simp only[aS] at V;unfold fM
  by_cases bx:j < aS u
  .rw[show Nat.blt j (aS u)=true by simpa[Nat.blt_eq] using bx];exact oT _ _ _ h.1 bx
  .rw[show Nat.blt j (aS u)=false by rw[au8];simpa[Nat.blt_eq] using bx];have:=oU _ _ (j - aS u) h.2 aw0
   rwa[show aS u+(j - aS u)=j by omega] at this
 |arr n u bu=>
  intro x c j h V;obtain⟨af,ao,bm⟩:=EI (by simpa[aS] using V);have ap:j/aS u < List.length x:=by rw[h.1];exact af
  have aY:fz (α:=aa u) x (j/aS u)=some (List.getD x (j/aS u) (cL u)):=Yq (α:=aa u) x _ _ ap;have:=bu _ _ (j % aS u) (h.2 _ _ aY) ao;rw[bm] at this;exact this
theorem cq.mk: ∀(u:bA) (x:aa u) (c:Nat->Option Value),oS u x->(∀j,j < aS u-> ∃v,c j=some v/\gP I w (fM u x j) v)->cq I w u x c:=by
 intro u
 induction u with
 |int k=>intro x c _ h;obtain⟨v,E,G⟩:=h 0 (by simp[aS]);rw[show v=_ from G] at E;exact E
 |u8=>intro x c _ h;obtain⟨v,E,G⟩:=h 0 (by simp[aS]);rw[show v=_ from G] at E;exact E
 |bool=>intro x c _ h;obtain⟨v,E,G⟩:=h 0 (by simp[aS]);rw[show v=_ from G] at E;exact E
 |str=>intro x c _ h;obtain⟨v,E,G⟩:=h 0 (by simp[aS]);rw[show v=_ from G] at E;exact E
 |dL=>intro x c _ h;obtain⟨v,E,G⟩:=h 0 (by simp[aS]);rw[show v=_ from G] at E;exact E
 |fn=>intro x c _ h;obtain⟨v,E,G⟩:=h 0 (by simp[aS]);rw[show v=_ from G] at E;exact E
 |aL=>intro x c _ h;obtain⟨v,E,G⟩:=h 0 (by simp[aS]);rw[show v=_ from G] at E;exact E
 |b4 u _=>
  intro x c _ h;obtain⟨v,E,A,cap,G,al⟩:=h 0 (by simp[aS]);exact⟨A,cap,E.trans G,al⟩
 |bK u v oT oU=>
  intro x c hw h;refine⟨oT _ _ hw.1 fun j V=>?_,oU _ _ hw.2 fun j V=>?_⟩
  .obtain⟨v,E,G⟩:=h j (by simp only[aS];omega);unfold fM at G;rw[show Nat.blt j (aS u)=true by simpa[Nat.blt_eq] using V] at G;exact⟨v,E,G⟩
  .obtain⟨da,E,G⟩:=h (aS u+j) (by simp only[aS];omega);unfold fM at G;rw[show Nat.blt (aS u+j) (aS u)=false by rw[au8];simp[Nat.blt_eq]] at G;rw[show aS u+j - aS u=j by omega] at G;exact⟨da,E,G⟩
 |arr n u bu=>
  intro x c hw h;refine⟨hw.1,fun i y aD=>bu _ _ (hw.2 y (Ys (α:=aa u) aD)) fun j V=>?_⟩;have aG:i < List.length x:=BI (α:=aa u) aD;have eD:i < n:=by rw[<-hw.1];exact aG
  have bx:i*aS u+j < n*aS u:=by
   have:=Nat.mul_le_mul_right (aS u) eD;rw[Nat.succ_mul] at this;omega
  obtain⟨v,E,G⟩:=h (i*aS u+j) bx;unfold fM at G
  have af:(i*aS u+j)/aS u=i:=by
   rw[Nat.mul_comm,Nat.mul_add_div aw0,Nat.div_eq_of_lt V,Nat.add_zero]
  have ao:(i*aS u+j) % aS u=j:=by
   rw[Nat.mul_comm,Nat.mul_add_mod,Nat.mod_eq_of_lt V]
  rw[af,ao] at G;rw[show List.getD x i (cL u)=y from Yr (α:=aa u) _ aD] at G;exact⟨v,E,G⟩
end
structure bo where
 bh:Nat
 A:Option Addr
 n:Nat
 cap:Nat
def bo.eK (p:bo):Value:=.slice p.A p.n p.cap
inductive kQ where
 |p (c off:Nat)
 |d (x:D)
inductive bC where
 |d (x:D)
 |ptr (c off:Nat)
 |own (c:Nat)
 |el (u:bA) (x:aa u) (off:Nat)
 |gj (c s i off:Nat)
 |os (c s off n:Nat)
 |mp (c:Nat)
 |cY (f:FuncId) (l:List kQ)
 |dH
 |bM (v:Value)
 |any
inductive dQ where
 |one (s:bC)
 |agg (l:List bC)
 |kc (u:bA) (x:aa u)
inductive aO where
 |c (x:dQ)
 |cb (l:List dQ)
 |undef
structure bg where
 bn:(Nat->Prop)->(Nat->Prop)->World->bo->Prop
 ck: ∀(I F:Nat->Prop) (w:World) (I':Nat->Prop) (w':World) (p:bo),bn I F w p->cj I w I' w'->(∀b,F b->w'.heap[b]? =w.heap[b]?)->w.heap.size<=w'.heap.size->bn I' F w' p
inductive ba where
 |cells (l:List bC)
 |row (e:TypeId) (u:bA) (xs:List (aa u))
 |map (aH aJ:bA) (es:List (aa aH×aa aJ))
 |val (u:bA) (x:aa u)
 |aF (o:bg)
 |cg (d:Nat) (o:bo->bg)
def xn (ρ:Nat->bo) (I:Nat->Prop) (w:World):kQ->Value->Prop
 | .p c off,v=>v= .pointer (some ⟨(ρ c).bh,off,none⟩)
 | .d x,v=>gP I w x v
def hZ (ρ:Nat->bo) (I:Nat->Prop) (w:World):List kQ->List Value->Prop
 | [],aE=>aE=[]
 |s::l,aE=> ∃v r,aE=v::r/\xn ρ I w s v/\hZ ρ I w l r
def d1 (ρ:Nat->bo) (I:Nat->Prop) (w:World):bC->Value->Prop
 | .d x,v=>gP I w x v
 | .ptr c off,v=>v= .pointer (some ⟨(ρ c).bh,off,none⟩)
 | .own c,v=>v=(ρ c).eK
 | .el u x off,v=> ∃b o,v= .pointer (some ⟨b,o+off,none⟩)/\I b/\cq I w u x (fun j=>w.cell? ⟨b,o+j,none⟩)
 | .gj c s i off,v=>v= .pointer (some ⟨(ρ c).bh,i*s+off,none⟩)
 | .os c s off n,v=>v= .slice (if(ρ c).cap=off then(ρ c).A else(ρ c).A.map (·.add (off*s))) n ((ρ c).cap - off)
 | .mp c,v=>v= .map (some (ρ c).bh)
 | .cY f l,v=> ∃aE,v= .func (.func f) #[] (List.toArray aE)/\hZ ρ I w l aE
 | .dH,v=>v= .slice none 0 0
 | .bM u,v=>v=u
 | .any,_=>True
def cc (ρ:Nat->bo) (I:Nat->Prop) (w:World):List bC->List Value->Prop
 | [],aE=>aE=[]
 |s::l,aE=> ∃v r,aE=v::r/\d1 ρ I w s v/\cc ρ I w l r
def gI (ρ:Nat->bo) (I:Nat->Prop) (w:World):dQ->Value->Prop
 | .one s,v=>d1 ρ I w s v
 | .agg l,v=> ∃aE,v= .agg (List.toArray aE)/\cc ρ I w l aE
 | .kc u x,v=> ∃aE,v= .agg (List.toArray aE)/\aE.length=aS u/\cq I w u x (fun j=>aE[j]?)
def iX (ρ:Nat->bo) (I:Nat->Prop) (w:World):List dQ->List Value->Prop
 | [],aE=>aE=[]
 |s::l,aE=> ∃v r,aE=v::r/\gI ρ I w s v/\iX ρ I w l r
def cx (ρ:Nat->bo) (I:Nat->Prop) (w:World):aO->Value->Prop
 | .c x,v=>gI ρ I w x v
 | .cb l,v=> ∃aE,v= .tuple (List.toArray aE)/\iX ρ I w l aE
 | .undef,v=>v=Go.undef
def gQ:(u:bA)->aa u->Value
 | .int k,n=>.int k n
 | .str,s=>.string ⟨List.toArray s⟩
 |_,_=>.nilFunc
def nk:bA->Bool
 | .bK _ _=>false
 | .arr _ _=>false
 |_=>true
def jy (I:Nat->Prop) (w:World) (u:bA) (x:aa u) (v:Value):Prop:=v.cells.size=aS u/\((nk u=true->v.cells= #[v])/\(nk u=false-> ∃cs,v= .agg cs))/\cq I w u x (fun j=>v.cells.toList[j]?)
def iw (I:Nat->Prop) (w:World) (aH aJ:bA):List (aa aH×aa aJ)->List MapEntry->Prop
 | [],es=>es=[]
 |p::l,es=> ∃e r,es=e::r/\e.key=gQ aH p.1/\jy I w aJ p.2 e.val/\iw I w aH aJ l r
def mg (es:List MapEntry) (bV:Nat):Prop:=(es.map (·.born)).Pairwise (· < ·)/\ ∀e,e∈es->e.born < bV
def gX (I:Nat->Prop) (w:World) (u:bA) (xs:List (aa u)) (cs:List Value):Prop:= ∀i x,xs[i]? =some x->cq I w u x (fun j=>cs[i*aS u+j]?)
def Holds (ρ:Nat->bo) (I F:Nat->Prop) (w:World) (p:bo):ba->Prop
 | .cells l=>(∀b,F b↔b=p.bh)/\ ∃aE T,w.heap[p.bh]? =some (.cells (List.toArray aE) T (0,0))/\cc ρ I w l aE
 | .row e u xs=>(∀b,F b↔p.eK.ownBlock=some b)/\(∀b,p.eK.ownBlock=some b->b=p.bh)/\ ∃cs,w.ownsRow 0 e (aS u) p.eK xs.length cs/\gX I w u xs cs
 | .map aH aJ es=>(∀b,F b↔b=p.bh)/\ ∃bU bV,w.heap[p.bh]? =some (.map (List.toArray bU) bV)/\iw I w aH aJ es bU/\mg bU bV
 | .val u x=>(∀b,F b↔b=p.bh)/\ ∃aE T,w.heap[p.bh]? =some (.cells (List.toArray aE) T (0,0))/\aE.length=aS u/\cq I w u x (fun j=>aE[j]?)
 | .aF o=>o.bn I F w p
 | .cg d o=>(o (ρ d)).bn I F w p
def mh (c:Nat):List kQ->Bool
 | []=>false
 | .p b _::l=>Nat.beq b c||mh c l
 | .d _::l=>mh c l
def bC.has (c:Nat):bC->Bool
 | .ptr b _=>Nat.beq b c
 | .own b=>Nat.beq b c
 | .gj b _ _ _=>Nat.beq b c
 | .os b _ _ _=>Nat.beq b c
 | .mp b=>Nat.beq b c
 | .cY _ l=>mh c l
 |_=>false
def mM (c:Nat):List bC->Bool
 | []=>false
 |s::l=>s.has c||mM c l
def dQ.has (c:Nat):dQ->Bool
 | .one s=>s.has c
 | .agg l=>mM c l
 | .kc _ _=>false
def tt (c:Nat):List dQ->Bool
 | []=>false
 |s::l=>s.has c||tt c l
def aO.has (c:Nat):aO->Bool
 | .c x=>x.has c
 | .cb l=>tt c l
 | .undef=>false
def ba.has (c:Nat):ba->Bool
 | .cells l=>mM c l
 | .cg d _=>Nat.beq d c
 |_=>false
section
variable {ρ ρ':Nat->bo} {I I':Nat->Prop} {w w':World}
theorem hZ.mono (U:cj I w I' w'): ∀(l:List kQ) (aE:List Value),(∀c,mh c l=true->ρ' c=ρ c)->hZ ρ I w l aE->hZ ρ' I' w' l aE
 | [],_,_,h=>h
 | .p b o::l,_,dr,⟨v,r,e,E,G⟩=>⟨v,r,e,(by have e:=dr b (by simp[mh]);simp only[xn] at*;rw[e];exact E),hZ.mono U l r (fun c J=>dr c (by simp[mh,J])) G⟩
 | .d x::l,_,dr,⟨v,r,e,E,G⟩=>⟨v,r,e,gP.mono U x v E,hZ.mono U l r (fun c J=>dr c (by simpa[mh] using J)) G⟩
theorem d1.mono (U:cj I w I' w') (s:bC) (v:Value) (dr: ∀c,s.has c=true->ρ' c=ρ c) (h:d1 ρ I w s v):d1 ρ' I' w' s v:=by
 cases s with
 |d x=>exact gP.mono U x v h
 |ptr c off=>
  have e:=dr c ay3;simp only[d1] at*;rw[e];exact h
 |own c=>
  have e:=dr c ay3;simp only[d1] at*;rw[e];exact h
 |el u x off=>
  obtain⟨b,o,E,G,al⟩:=h;exact⟨b,o,E,(U b G).1,cq.mono U u x _ _ (fun j v aA=>Pg (U b G).2 aA) al⟩
 |gj c s i off=>
  have e:=dr c ay3;simp only[d1] at*;rw[e];exact h
 |os c s off n=>
  have e:=dr c ay3;simp only[d1] at*;rw[e];exact h
 |mp c=>
  have e:=dr c ay3;simp only[d1] at*;rw[e];exact h
 |cY f l=>obtain⟨aE,e,h⟩:=h;exact⟨aE,e,hZ.mono U l aE dr h⟩
 |dH=>exact h
 |bM u=>exact h
 |any=>trivial
theorem cc.mono (U:cj I w I' w'): ∀(l:List bC) (aE:List Value),(∀c,mM c l=true->ρ' c=ρ c)->cc ρ I w l aE->cc ρ' I' w' l aE
 | [],_,_,h=>h
 |s::l,_,dr,⟨v,r,e,E,G⟩=>⟨v,r,e,d1.mono U s v (fun c J=>dr c (by simp[mM,J])) E,cc.mono U l r (fun c J=>dr c (by simp[mM,J])) G⟩
theorem gI.mono (U:cj I w I' w') (s:dQ) (v:Value) (dr: ∀c,s.has c=true->ρ' c=ρ c) (h:gI ρ I w s v):gI ρ' I' w' s v:=by
 cases s with
 |one s=>exact d1.mono U s v dr h
 |agg l=>obtain⟨aE,e,h⟩:=h;exact⟨aE,e,cc.mono U l aE dr h⟩
 |kc u x=>obtain⟨aE,e,E,G⟩:=h;exact⟨aE,e,E,cq.mono U u x _ _ (fun _ _ h=>h) G⟩
theorem iX.mono (U:cj I w I' w'): ∀(l:List dQ) (aE:List Value),(∀c,tt c l=true->ρ' c=ρ c)->iX ρ I w l aE->iX ρ' I' w' l aE
 | [],_,_,h=>h
 |s::l,_,dr,⟨v,r,e,E,G⟩=>⟨v,r,e,gI.mono U s v (fun c J=>dr c (by simp[tt,J])) E,iX.mono U l r (fun c J=>dr c (by simp[tt,J])) G⟩
theorem cx.mono (U:cj I w I' w') (s:aO) (v:Value) (dr: ∀c,s.has c=true->ρ' c=ρ c) (h:cx ρ I w s v):cx ρ' I' w' s v:=by
 cases s with
 |c s=>exact gI.mono U s v dr h
 |cb l=>obtain⟨aE,e,h⟩:=h;exact⟨aE,e,iX.mono U l aE dr h⟩
 |undef=>exact h
theorem gX.mono (U:cj I w I' w') {u:bA} {xs:List (aa u)} {cs:List Value} (h:gX I w u xs cs):gX I' w' u xs cs:=fun i x hx=>cq.mono U u x _ _ (fun _ _ h=>h) (h i x hx)
theorem jy.mono (U:cj I w I' w') {u:bA} {x:aa u} {v:Value} (h:jy I w u x v):jy I' w' u x v:=⟨h.1,h.2.1,cq.mono U u x _ _ (fun _ _ h=>h) h.2.2⟩
theorem iw.mono (U:cj I w I' w') {aH aJ:bA}: ∀{l:List (aa aH×aa aJ)} {es:List MapEntry},iw I w aH aJ l es->iw I' w' aH aJ l es
 | [],_,h=>h
 |_::_,_,⟨e,r,av,E,G,al⟩=>⟨e,r,av,E,G.mono U,al.mono U⟩
theorem Ph {e s n:Nat} {v:Value} {cs:List Value} (h:w.ownsRow 0 e s v n cs) (O: ∀b,v.ownBlock=some b->w'.heap[b]? =w.heap[b]?):w'.ownsRow 0 e s v n cs:=by
 refine⟨h.1,?_⟩;rcases h.2 with h |⟨g,cap,df,aA,av,aY,r⟩
 .exact .inl h
 .exact .inr ⟨g,cap,df,aA,av,(O g (by rw[aA];rfl)).trans aY,r⟩
theorem Holds.ck (U:cj I w I' w') {F:Nat->Prop} (bd: ∀b,F b->w'.heap[b]? =w.heap[b]?) (aR:w.heap.size<=w'.heap.size) {p:bo}: ∀(ch:ba),(∀c,ch.has c=true->ρ' c=ρ c)->Holds ρ I F w p ch->Holds ρ' I' F w' p ch
 | .cells l,dr,⟨E,aE,T,G,al⟩=>⟨E,aE,T,(bd _ ((E _).2 rfl)).trans G,cc.mono U l aE dr al⟩
 | .row e u xs,_,⟨E,G,cs,al,aW⟩=>⟨E,G,cs,Ph al fun b O=>bd b ((E b).2 O),aW.mono U⟩
 | .map aH aJ es,_,⟨E,bU,bV,G,al,aW⟩=>⟨E,bU,bV,(bd _ ((E _).2 rfl)).trans G,al.mono U,aW⟩
 | .val u x,_,⟨E,aE,T,G,al,aW⟩=>⟨E,aE,T,(bd _ ((E _).2 rfl)).trans G,al,cq.mono U u x _ _ (fun _ _ h=>h) aW⟩
 | .aF o,_,h=>o.ck _ _ _ _ _ _ h U bd aR
 | .cg d o,dr,h=>by
  have e:=dr d (by simp[ba.has]);simp only[Holds] at*;rw[e];exact(o (ρ d)).ck _ _ _ _ _ _ h U bd aR
end
end
section
abbrev aX:=List (Nat×aO)
abbrev ay:=List (Nat×ba)
def dI:aX->Nat->aO
 | [],_=>.c (.one .any)
 |(t,v)::K,s=>match Nat.beq t s with
  |true=>v
  |false=>dI K s
def aj:ay->Nat->Option ba
 | [],_=>none
 |(t,v)::B,s=>match Nat.beq t s with
  |true=>some v
  |false=>aj B s
def gY:ay->Nat->ay
 | [],_=>[]
 |(t,v)::B,s=>match Nat.beq t s with
  |true=>gY B s
  |false=>(t,v)::gY B s
theorem hv (B:ay) (c d:Nat):aj (gY B c) d=if c=d then none else aj B d:=by
 induction B with
 |nil=>simp[gY,aj]
 |cons x B bu=>
  obtain⟨t,v⟩:=x;unfold gY
  by_cases h:Nat.beq t c=true
  .have e:=ar0 h;subst e;rw[h];simp only[bu]
   split
   .rfl
   .rename_i a6;simp only[aj];rw[show Nat.beq t d=false by rw[au8];intro h;exact a6 (ar0 h)]
  .rw[Bool.not_eq_true] at h;rw[h];simp only[aj]
   by_cases G:Nat.beq t d=true
   .have e:=ar0 G;subst e;rw[if_neg (fun e=>by subst e;simp at h)];rw[G]
   .rw[Bool.not_eq_true] at G;rw[G];simpa using bu
theorem cd (B:ay) (c:Nat) (ch:ba) (d:Nat):aj ((c,ch)::B) d=if c=d then some ch else aj B d:=by
 simp only[aj]
 by_cases h:c=d
 .subst h;simp
 .rw[if_neg h,show Nat.beq c d=false by rw[au8];intro e;exact h (ar0 e)]
theorem kp (K:aX) (c:Nat) (v:aO) (d:Nat):dI ((c,v)::K) d=if c=d then v else dI K d:=by
 rw[dI.eq_def]
 by_cases h:c=d
 .subst h;simp
 .simp only[if_neg h,show Nat.beq c d=false by rw[au8];intro e;exact h (ar0 e)]
def EJ (a:Act) (s:Nat) (v:Value):Prop:=a.tmps.getD s undef=v
theorem EJ.eval {a:Act} {s:Nat} {v:Value} (h:EJ a s v):a.eval (.tmp s)=v:=h
theorem Pi {a:Act} {d:Nat} {v:Value} (h:d < a.tmps.size):EJ (a.put (some d) v) d v:=by simp[EJ,Act.put,h]
theorem Yt {a:Act} {d s:Nat} {v:Value} (h:d≠s):a.tmps.getD s undef=(a.put (some d) v).tmps.getD s undef:=by
 simp[Act.put,Array.getElem?_setIfInBounds_ne h]
theorem kq {a:Act} {d:Option Nat} {v:Value}:(a.put d v).tmps.size=a.tmps.size:=by cases d <;>simp[Act.put]
theorem kr {a:Act} {d:Option Nat} {v:Value}:(a.put d v).defers=a.defers:=by cases d <;>simp[Act.put]
structure fi where
 e':World
 zt:Nat->Prop
 qn:Nat->Prop
 mN:Nat->bo
 ds:aA1
def xo (D:Nat):Deferred:={target:=.collected D,args:= #[]}
def b5 (C:fi) (B:ay) (F:Nat->Nat->Prop) (w:World):Nat->Prop:=fun b=>
 b < w.heap.size/\(C.zt b\/C.qn b\/C.e'.heap.size<=b/\b∉C.ds)/\ ∀c ch,aj B c=some ch-> ¬F c b
structure Mem (ids:aA1) (C:fi) (B:ay) (ρ:Nat->bo) (F:Nat->Nat->Prop) (w:World):Prop where
 fr:cP C.qn C.e' w
 holds: ∀c ch,aj B c=some ch->Holds ρ (b5 C B F w) (F c) w (ρ c) ch
 own: ∀c ch,aj B c=some ch-> ∀b,F c b->b < w.heap.size/\(C.qn b\/C.e'.heap.size<=b/\b∉C.ds)
 fj: ∀c b7 ch ch' b,aj B c=some ch->aj B b7=some ch'->c≠b7->F c b-> ¬F b7 b
 dZ: ∀c,c∈ids->ρ c=C.mN c
 kR:C.ds.Nodup/\(∀b,C.zt b\/C.qn b->b < C.e'.heap.size)/\ ∀D,D∈C.ds->D < w.heap.size/\w.heap[D]? =some (.deferred (some []))/\C.e'.heap.size<=D
def ey (K:aX) (ρ:Nat->bo) (I:Nat->Prop) (a:Act) (w:World):Prop:= ∀s,cx ρ I w (dI K s) (a.tmps.getD s undef)
def fa (N:Nat) (ids:aA1) (C:fi) (K:aX) (B:ay) (a:Act) (w:World):Prop:=
 a.tmps.size=N/\a.defers=C.ds.map xo/\ ∃ρ F,Mem ids C B ρ F w/\ey K ρ (b5 C B F w) a w
theorem Mem.fresh {ids:aA1} {C:fi} {B:ay} {ρ:Nat->bo} {F:Nat->Nat->Prop} {w:World} (h:Mem ids C B ρ F w) {b:Nat} (O:w.heap.size<=b):C.e'.heap.size<=b/\b∉C.ds:=
 ⟨au4 h.fr.size O,fun H=>by have:=(h.kR.2.2 b H).1;omega⟩
theorem Mem.step {ids:aA1} {C:fi} {B B':ay} {ρ ρ':Nat->bo} {F F':Nat->Nat->Prop} {w w':World} (h:Mem ids C B ρ F w) (M EK:Nat->Prop)
  (cE:cP (fun b=> ∃c ch,aj B c=some ch/\M c/\F c b) w w')
  (rl: ∀c ch,aj B' c=some ch-> ¬M c->aj B c=some ch)
  (dr: ∀c,¬EK c->ρ' c=ρ c) (bd: ∀c,¬M c->F' c=F c) (I2: ∀c,c∈ids-> ¬EK c)
  (mi: ∀c,EK c->M c)
  (named: ∀c ch,aj B c=some ch-> ¬M c-> ∀d,ch.has d=true-> ¬EK d)
  (new: ∀c ch,aj B' c=some ch->M c->cj (b5 C B F w) w (b5 C B' F' w') w'->Holds ρ' (b5 C B' F' w') (F' c) w' (ρ' c) ch)
  (EL: ∀c ch,aj B' c=some ch->M c-> ∀b,F' c b->b < w'.heap.size/\((∃hy cB,aj B hy=some cB/\M hy/\F hy b)\/w.heap.size<=b))
  (Yu: ∀c b7 ch ch' b,aj B' c=some ch->aj B' b7=some ch'->M c->M b7->c≠b7->F' c b-> ¬F' b7 b):
  Mem ids C B' ρ' F' w'/\cj (b5 C B F w) w (b5 C B' F' w') w':=by
 have aR:=h.fr.size
 have I3:cj (b5 C B F w) w (b5 C B' F' w') w':=by
  rintro b ⟨E,G,al⟩;refine⟨⟨Nat.lt_of_lt_of_le E cE.size,G,fun c ch J=>?_⟩,cE.block b E ?_⟩
  .by_cases ar:M c
   .intro O;obtain⟨_,dt⟩:=EL c ch J ar b O;rcases dt with⟨hy,cB,af,_,ao⟩ |dt
    .exact al hy cB af ao
    .omega
   .rw[bd c ar];exact al c ch (rl c ch J ar)
  .rintro⟨c,ch,af,_,ao⟩;exact al c ch af ao
 have Yv: ∀c ch,aj B c=some ch-> ¬M c-> ∀b,F c b->w'.heap[b]? =w.heap[b]? :=fun c ch J ar b O=>
  cE.block b (h.own c ch J b O).1 (by
   rintro⟨hy,cB,af,ao,bm⟩;exact h.fj c hy ch cB b J af (fun e=>ar (e▸ao)) O bm)
 refine⟨⟨?_,?_,?_,?_,?_,?_⟩,I3⟩
 .refine h.fr.trans cE ?_;rintro b O ⟨c,ch,af,_,ao⟩;rcases(h.own c ch af b ao).2 with h' |h'
  .exact h'
  .have:=h'.1;omega
 .intro c ch J
  by_cases ar:M c
  .exact new c ch J ar I3
  .have ag:=rl c ch J ar;rw[bd c ar,dr c (fun hn=>ar (mi c hn))];exact Holds.ck I3 (Yv c ch ag ar) cE.size ch (fun d H=>dr d (named c ch ag ar d H)) (h.holds c ch ag)
 .intro c ch J b O
  by_cases ar:M c
  .obtain⟨E,G⟩:=EL c ch J ar b O;refine⟨E,?_⟩;rcases G with⟨hy,cB,af,_,ao⟩ |G
   .exact(h.own hy cB af b ao).2
   .exact .inr (h.fresh G)
  .rw[bd c ar] at O;obtain⟨E,G⟩:=h.own c ch (rl c ch J ar) b O;exact⟨Nat.lt_of_lt_of_le E cE.size,G⟩
 .intro c b7 ch ch' b J cQ a6 O dt
  by_cases ar:M c
  .by_cases bP:M b7
   .exact Yu c b7 ch ch' b J cQ ar bP a6 O dt
   .rw[bd b7 bP] at dt;have tu:=rl b7 ch' cQ bP;rcases(EL c ch J ar b O).2 with⟨hy,cB,af,bm,ao⟩ |G
    .exact h.fj hy b7 cB ch' b af tu (fun e=>bP (e▸bm)) ao dt
    .have:=(h.own b7 ch' tu b dt).1;omega
  .rw[bd c ar] at O;have ag:=rl c ch J ar
   by_cases bP:M b7
   .rcases(EL b7 ch' cQ bP b dt).2 with⟨hy,cB,af,bm,ao⟩ |G
    .exact h.fj hy c cB ch b af ag (fun e=>ar (e▸bm)) ao O
    .have:=(h.own c ch ag b O).1;omega
   .rw[bd b7 bP] at dt;exact h.fj c b7 ch ch' b ag (rl b7 ch' cQ bP) a6 O dt
 .intro c J;rw[dr c (I2 c J)];exact h.dZ c J
 .refine⟨h.kR.1,h.kR.2.1,fun D cp=>?_⟩;obtain⟨g1,g2,c2⟩:=h.kR.2.2 D cp;refine⟨Nat.lt_of_lt_of_le g1 cE.size,(cE.block D g1 ?_).trans g2,c2⟩;rintro⟨c,ch,af,_,ao⟩;rcases(h.own c ch af D ao).2 with h' |h'
  .have:=h.kR.2.1 D (.inr h');omega
  .exact h'.2 cp
theorem Mem.below {ids:aA1} {C:fi} {B:ay} {ρ:Nat->bo} {F:Nat->Nat->Prop} {w w':World} (h:Mem ids C B ρ F w) (O:Below w.heap.size w w'):
  Mem ids C B ρ F w'/\cj (b5 C B F w) w (b5 C B F w') w':=
 h.step (fun _=>False) (fun _=>False) (cP.oR O) (fun _ _ h _=>h) (fun _ _=>rfl) (fun _ _=>rfl) (fun _ _ h=>h) (fun _ h=>h) (fun _ _ _ _ _ _ h=>h) (fun _ _ _ h=>h.elim) (fun _ _ _ h=>h.elim) (fun _ _ _ _ _ _ _ h=>h.elim)
theorem ey.mono {K:aX} {ρ ρ':Nat->bo} {I I':Nat->Prop} {a:Act} {w w':World} (h:ey K ρ I a w) (U:cj I w I' w') (dr: ∀s c,(dI K s).has c=true->ρ' c=ρ c):ey K ρ' I' a w':=
 fun s=>cx.mono U _ _ (dr s) (h s)
theorem ey.put {K:aX} {ρ:Nat->bo} {I:Nat->Prop} {a:Act} {w:World} (h:ey K ρ I a w) {d:Nat} {v:aO} {x:Value} (H:d < a.tmps.size) (aA:cx ρ I w v x):ey ((d,v)::K) ρ I (a.put (some d) x) w:=fun s=>by
 rw[kp]
 by_cases e:d=s
 .subst e;rw[if_pos rfl,show(a.put (some d) x).tmps.getD d undef=x from Pi H];exact aA
 .rw[if_neg e,<-Yt e];exact h s
def mO (d:Option Nat) (v:aO) (K:aX):aX:=match d with
 |some d=>(d,v)::K
 |none=>K
theorem ey.ku {K:aX} {ρ:Nat->bo} {I:Nat->Prop} {a:Act} {w:World} (h:ey K ρ I a w) {d:Option Nat} {v:aO} {x:Value} (H: ∀e,d=some e->e < a.tmps.size) (aA:cx ρ I w v x):ey (mO d v K) ρ I (a.put d x) w:=by
 cases d with
 |none=>exact h
 |some d=>exact h.put (H d rfl) aA
def vS:Value->bC
 | .int k n=>.d (.int k n)
 | .bool b=>.d (.lit b)
 | .string s=>.d (.str s.data.toList)
 | .slice none 0 0=>.dH
 |v=>.bM v
theorem Pj (ρ:Nat->bo) (I:Nat->Prop) (w:World) (v:Value):d1 ρ I w (vS v) v:=by
 unfold vS
 split <;>simp[d1,gP]
def EM:Value->aO
 | .agg cs=>.c (.agg (cs.toList.map vS))
 |v=>.c (.one (vS v))
theorem Pk (ρ:Nat->bo) (I:Nat->Prop) (w:World): ∀aE:List Value,cc ρ I w (aE.map vS) aE
 | []=>rfl
 |v::aE=>⟨v,aE,rfl,Pj ρ I w v,Pk ρ I w aE⟩
theorem Yw (ρ:Nat->bo) (I:Nat->Prop) (w:World) (v:Value):cx ρ I w (EM v) v:=by
 unfold EM
 split
 .rename_i cs;exact⟨cs.toList,aw2,Pk ρ I w _⟩
 .exact Pj ρ I w v
def a7 (K:aX):Operand->aO
 | .tmp t=>dI K t
 | .const v=>EM v
 | .func f=>.c (.one (.cY f []))
 | .global g=>.c (.one (.bM (.pointer (some ⟨g,0,none⟩))))
theorem ey.get {K:aX} {ρ:Nat->bo} {I:Nat->Prop} {a:Act} {w:World} (h:ey K ρ I a w) (x:Operand):cx ρ I w (a7 K x) (a.eval x):=by
 cases x with
 |tmp t=>exact h t
 |const v=>exact Yw ρ I w v
 |func f=>exact⟨[],rfl,rfl⟩
 |global g=>rfl
end
section
def zu (a b:Int):Bool:=decide (a=b)
def zv (a b:aA0):Bool:=decide (a=b)
def fN:(u:bA)->aa u->aa u->Bool
 | .int _,a,b=>zu a b
 | .str,a,b=>zv a b
 |_,_,_=>false
def bY {aH aJ:bA}:List (aa aH×aa aJ)->aa aH->Option (aa aJ)
 | [],_=>none
 |p::l,k=>match fN aH k p.1 with
  |true=>some p.2
  |false=>bY l k
def dw {aH aJ:bA}:List (aa aH×aa aJ)->aa aH->aa aJ->List (aa aH×aa aJ)
 | [],k,x=>[(k,x)]
 |p::l,k,x=>match fN aH k p.1 with
  |true=>(k,x)::l
  |false=>p::dw l k x
def gR {aH aJ:bA}:List (aa aH×aa aJ)->aa aH->List (aa aH×aa aJ)
 | [],_=>[]
 |p::l,k=>match fN aH k p.1 with
  |true=>l
  |false=>p::gR l k
def nl:bA->TypeDesc->Bool
 | .int k,.int d2=>k == d2
 | .str,.string=>true
 |_,_=>false
section
variable {P:Program} {I:Nat->Prop} {w:World} {aH aJ:bA}
theorem so {d:TypeDesc} (H:nl aH d=true) (a:aa aH):MapKept.IsKey d (gQ aH a):=by
 cases aH <;>cases d <;>simp[nl] at H
 .subst H;simp[gQ,MapKept.IsKey]
 .simp[gQ,MapKept.IsKey]
theorem I4 {d:TypeDesc} (H:nl aH d=true) (a b:aa aH):gQ aH a=gQ aH b↔fN aH a b=true:=by
 cases aH <;>cases d <;>simp[nl] at H
 .have: ∀(k:IntKind) (a b:Int),Value.int k a=Value.int k b↔zu a b=true:=fun k a b=>by simp[zu]
  exact this _ a b
 .have: ∀(a b:aA0),Value.string ⟨List.toArray a⟩=Value.string ⟨List.toArray b⟩↔zv a b=true:=fun a b=>by simp[zv]
  exact this a b
theorem BJ: ∀{l:List (aa aH×aa aJ)} {es:List MapEntry},iw I w aH aJ l es->es.length=l.length
 | [],_,h=>by rw[show _=[] from h];rfl
 |p::l,_,⟨e,r,h,_,_,al⟩=>by rw[h,au1,au1,BJ al]
theorem BK {d:TypeDesc} (H:nl aH d=true) (k:aa aH): ∀(l:List (aa aH×aa aJ)) (es:List MapEntry) (i:Nat),iw I w aH aJ l es->
  (Instr.findNow d (gQ aH k) es i=some none/\bY l k=none/\(∀x,dw l k x=l++[(k,x)])/\gR l k=l)\/
  ∃(j:Nat) (x:aa aJ) (e:MapEntry),Instr.findNow d (gQ aH k) es i=some (some (i+j,e.val))/\bY l k=some x/\es[j]? =some e/\e.key=gQ aH k/\jy I w aJ x e.val/\(∀y,dw l k y=l.set j (k,y))/\gR l k=l.eraseIdx j
 | [],_,i,h=>by
  rw[show _=[] from h];exact .inl ⟨rfl,rfl,fun _=>rfl,rfl⟩
 |p::l,_,i,⟨e,r,h,E,G,al⟩=>by
  subst h;obtain⟨b,O,rn⟩:=MapKept.sameNow_of_keys (so H k) (so H p.1);rw[<-E] at O
  cases Z:fN aH k p.1 with
  |true=>
   have kv:b=true:=rn.2 ((I4 H k p.1).2 Z);subst kv;refine .inr ⟨0,p.2,e,by simp[Instr.findNow,O],by simp[bY,Z],rfl,by rw[E];exact((I4 H k p.1).2 Z).symm,G,fun y=>by simp[dw,Z],by simp[gR,Z]⟩
  |false=>
   have Yx:b=false:=by
    cases b with
    |false=>rfl
    |true=>have:=(I4 H k p.1).1 (rn.1 rfl);rw[Z] at this;cases this
   subst Yx;rcases BK H k l r (i+1) al with⟨b0,ca,a3,a4⟩ |⟨j,x,b6,b0,ca,a3,a4,a5,gD,zw⟩
   .exact .inl ⟨by simp[Instr.findNow,O,b0],by simp[bY,Z,ca],fun y=>by simp[dw,Z,a3],by simp[gR,Z,a4]⟩
   .exact .inr ⟨j+1,x,b6,by simp[Instr.findNow,O,b0];omega,by simp[bY,Z,ca],by simpa using a3,a4,a5,fun y=>by simp[dw,Z,gD],by simp[gR,Z,zw]⟩
theorem Pl {t kt et:TypeId} {d:TypeDesc} (cn:P.underlying t=some (.map kt et)) (Z:P.underlying kt=some d) (H:nl aH d=true) {b:Nat} {bU:List MapEntry} {bV:Nat} (O:w.heap[b]? =some (.map (List.toArray bU) bV))
  {l:List (aa aH×aa aJ)} (aw:iw I w aH aJ l bU) {aB:Value} (aR:(zeroValue et).run P w= .ok aB w) (zx:jy I w aJ (cL aJ) aB) (k:aa aH) (c:Bool):
  ∃v,(Instr.lookup t (.map (some b)) (gQ aH k) c).run P w= .ok (if c then .tuple #[v,.bool (bY l k).isSome] else v) w/\jy I w aJ ((bY l k).getD (cL aJ)) v:=by
 have J:=fun e=>MapKept.run_checkKey (P:=P) (w:=w) Z (so H k) e 9999
 rcases BK (I:=I) (w:=w) H k l bU 0 aw with⟨b0,ca,_⟩ |⟨j,x,e,b0,ca,_,_,a5,_⟩
 .refine⟨aB,?_,by rw[ca];exact zx⟩;have hf:=MapKept.run_findKey (P:=P) (w:=w) Z b0;rw[ca];simp[Instr.lookup,run_underlying cn,MapKept.run_getObj_map O,J,hf,aR,Result.andThen]
 .refine⟨e.val,?_,by rw[ca];exact a5⟩;have hf:=MapKept.run_findKey (P:=P) (w:=w) Z b0;rw[ca];simp[Instr.lookup,run_underlying cn,MapKept.run_getObj_map O,J,hf,Result.andThen]
theorem Pm: ∀{l:List (aa aH×aa aJ)} {es:List MapEntry},iw I w aH aJ l es-> ∀{k:aa aH} {x:aa aJ} {e:MapEntry},e.key=gQ aH k->jy I w aJ x e.val->iw I w aH aJ (l++[(k,x)]) (es++[e])
 | [],_,h,k,x,e,E,G=>by rw[show _=[] from h];exact⟨e,[],rfl,E,G,rfl⟩
 |p::l,_,⟨b6,r,h,b0,ca,a3⟩,k,x,e,E,G=>by rw[h];exact⟨b6,r++[e],rfl,b0,ca,Pm a3 E G⟩
theorem Pn: ∀{l:List (aa aH×aa aJ)} {es:List MapEntry},iw I w aH aJ l es-> ∀{k:aa aH} {x:aa aJ} {e:MapEntry} (j:Nat),e.key=gQ aH k->jy I w aJ x e.val->iw I w aH aJ (l.set j (k,x)) (es.set j e)
 | [],_,h,k,x,e,j,E,G=>by rw[show _=[] from h];rfl
 |p::l,_,⟨b6,r,h,b0,ca,a3⟩,k,x,e,0,E,G=>by rw[h];exact⟨e,r,rfl,E,G,a3⟩
 |p::l,_,⟨b6,r,h,b0,ca,a3⟩,k,x,e,j+1,E,G=>by rw[h];exact⟨b6,r.set j e,rfl,b0,ca,Pn a3 j E G⟩
theorem Po: ∀{l:List (aa aH×aa aJ)} {es:List MapEntry},iw I w aH aJ l es-> ∀(j:Nat),iw I w aH aJ (l.eraseIdx j) (es.eraseIdx j)
 | [],_,h,j=>by rw[show _=[] from h];rfl
 |p::l,_,⟨b6,r,h,b0,ca,a3⟩,0=>by rw[h];exact a3
 |p::l,_,⟨b6,r,h,b0,ca,a3⟩,j+1=>by rw[h];exact⟨b6,r.eraseIdx j,rfl,b0,ca,Po a3 j⟩
theorem Pp {es:List MapEntry} {c:Nat} (h:mg es c) (key val:Value):mg (es++[⟨key,val,c⟩]) (c+1):=by
 refine⟨?_,fun e U=>?_⟩
 .rw[at9,List.pairwise_append];refine⟨h.1,aw2,fun a ha b O=>?_⟩;obtain⟨e,U,rfl⟩:=as5.1 ha;simp only[ar8,av4,ar5] at O;subst O;exact h.2 e U
 .rcases as4.1 U with U |U
  .have:=h.2 e U;omega
  .simp only[ar5] at U;subst U;simp
theorem Yy {es:List MapEntry} {c:Nat} (h:mg es c) {j:Nat} {bJ e:MapEntry} (V:es[j]? =some bJ) (O:e.born=bJ.born):mg (es.set j e) c:=by
 have aw:(es.set j e).map (·.born)=es.map (·.born):=by
  rw[List.map_set];refine List.ext_getElem? fun i=>?_
  rw[List.getElem?_set]
  split
  .rename_i aG;subst aG;have:=(ar1.1 V).1;rw[if_pos (by simpa using this),as6,V,O];rfl
  .rfl
 refine⟨by rw[aw];exact h.1,fun x hx=>?_⟩;have E:x.born∈(es.set j e).map (·.born):=as0 hx;rw[aw] at E;obtain⟨y,aD,Yz⟩:=as5.1 E;rw[<-Yz];exact h.2 y aD
theorem YA {es:List MapEntry} {c:Nat} (h:mg es c) (j:Nat):mg (es.eraseIdx j) c:=
 ⟨h.1.sublist ((List.eraseIdx_sublist es j).map _),fun e U=>h.2 e ((List.eraseIdx_sublist es j).subset U)⟩
theorem YB (a:aa aH) {d:TypeDesc} (H:nl aH d=true) (n:Nat):Instr.sameBits (n+1) (gQ aH a) (gQ aH a)=true:=by
 cases aH <;>cases d <;>simp[nl] at H
 .have: ∀(k:IntKind) (a:Int),Instr.sameBits (n+1) (.int k a) (.int k a)=true:=fun k a=>by simp[Instr.sameBits]
  exact this _ a
 .simp only[gQ,Instr.sameBits];exact(MapKept.bytes_beq _ _).2 rfl
theorem BL {t kt et:TypeId} {d:TypeDesc} (cn:P.underlying t=some (.map kt et)) (Z:P.underlying kt=some d) (H:nl aH d=true) {b:Nat} {bU:List MapEntry} {bV:Nat} (O:w.heap[b]? =some (.map (List.toArray bU) bV))
  {l:List (aa aH×aa aJ)} (aw:iw I w aH aJ l bU) (dy:mg bU bV) (k:aa aH) {x:aa aJ} {v:Value} (aA:jy I w aJ x v):
  ∃eE jV,(Instr.mapUpdate t (.map (some b)) (gQ aH k) v).run P w= .ok () {w with heap:=w.heap.setIfInBounds b (.map (List.toArray eE) jV)}/\iw I w aH aJ (dw l k x) eE/\mg eE jV:=by
 have J:=fun e=>MapKept.run_checkKey (P:=P) (w:=w) Z (so H k) e 9999
 have d':=fun o=>MapKept.run_setObj_map (P:=P) o O
 rcases BK (I:=I) (w:=w) H k l bU 0 aw with⟨b0,ca,a3,_⟩ |⟨j,y,e,b0,ca,a3,a4,a5,gD,_⟩
 .have hf:=MapKept.run_findKey (P:=P) (w:=w) Z b0;refine⟨bU++[⟨gQ aH k,v,bV⟩],bV+1,?_,by rw[a3];exact Pm aw rfl aA,Pp dy _ _⟩;simp[Instr.mapUpdate,run_underlying cn,MapKept.run_getObj_map O,J,hf,d',Result.andThen]
 .have hf:=MapKept.run_findKey (P:=P) (w:=w) Z b0;have sn:=(ar1.1 a3).1;refine⟨bU.set j ⟨gQ aH k,v,e.born⟩,bV,?_,by rw[gD];exact Pn aw j rfl aA,Yy dy a3 rfl⟩
  have Pq:bU.modify j (fun b6=>{b6 with key:=gQ aH k,val:=v})=bU.set j ⟨gQ aH k,v,e.born⟩:=by
   refine List.ext_getElem? fun i=>?_
   rw[List.getElem?_modify,List.getElem?_set]
   by_cases gS:j=i
   .subst gS;have U:=(ar1.1 a3).2;simp[sn,U]
   .simp[gS]
  simp[Instr.mapUpdate,run_underlying cn,MapKept.run_getObj_map O,J,hf,d',Result.andThen,a3,a4,Instr.keyThatStays,YB k H,Pq]
theorem Pr {t kt et ty:TypeId} {d:TypeDesc} (cn:P.underlying t=some (.map kt et)) (Z:P.underlying kt=some d) (H:nl aH d=true) {b:Nat} {bU:List MapEntry} {bV:Nat} (O:w.heap[b]? =some (.map (List.toArray bU) bV))
  {l:List (aa aH×aa aJ)} (aw:iw I w aH aJ l bU) (dy:mg bU bV) (k:aa aH) (YC:TypeId):
  ∃eE,(Builtin.delete_ #[t,YC] ty #[.map (some b),gQ aH k]).run P w= .ok (.tuple #[]) {w with heap:=w.heap.setIfInBounds b (.map (List.toArray eE) bV)}/\iw I w aH aJ (gR l k) eE/\mg eE bV:=by
 have J:=fun e=>MapKept.run_checkKey (P:=P) (w:=w) Z (so H k) e 9999
 have d':=fun o=>MapKept.run_setObj_map (P:=P) o O
 rcases BK (I:=I) (w:=w) H k l bU 0 aw with⟨b0,ca,_,a3⟩ |⟨j,y,e,b0,ca,a3,a4,a5,_,gD⟩
 .have hf:=MapKept.run_findKey (P:=P) (w:=w) Z b0;refine⟨bU,?_,by rw[a3];exact aw,dy⟩;simp[Builtin.delete_,run_underlying cn,MapKept.run_getObj_map O,J,hf,d',Result.andThen]
 .have hf:=MapKept.run_findKey (P:=P) (w:=w) Z b0;have sn:=(ar1.1 a3).1;refine⟨bU.eraseIdx j,?_,by rw[gD];exact Po aw j,YA dy j⟩
  have YD:(List.toArray bU).eraseIdxIfInBounds j=List.toArray (bU.eraseIdx j):=by
   apply Array.ext';unfold Array.eraseIdxIfInBounds;rw[dif_pos (by simpa using sn)];simp
  simp[Builtin.delete_,run_underlying cn,MapKept.run_getObj_map O,J,hf,d',Result.andThen,YD]
theorem YE {t:TypeId}:(Instr.makeMap t none).run P w= .ok (.map (some w.heap.size)) (w.alloc (.map #[] 0)):=by
 simp only[Instr.makeMap,Sem.run_bind,run_newObj_alloc,Result.andThen,Sem.run_pure]
end
end
end Go.Proofs.YtkfbeijmgggkmaaGreat
