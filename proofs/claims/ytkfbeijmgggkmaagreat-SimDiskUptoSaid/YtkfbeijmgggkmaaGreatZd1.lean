/-
A part of the proof of this claim: lemmas, with no condition beyond what each says.
-/
import Derived.WalkKit
import Derived.WalkSpells
import Derived.WalkLawsBesides
import Derived.BigQuiet
import Derived.Deep.QuietTactic
import Derived.Deep.RegionHeld3
import Derived.Deep.AppendLies
import Derived.Deep.DrawnRows
import Derived.Maps.AppendAt
import Derived.Laws.CopyOwn
import Derived.Lib.ConvBytes
import Derived.Lib.Hide
import Derived.RangeFuncRecord
import Derived.OrdersIn
import Derived.TacticsIn
import Derived.Sort.LoopGhostIn
import Derived.MapKept
import Derived.ChangeMaps4
set_option linter.unusedVariables false
set_option linter.unusedSimpArgs false
set_option maxRecDepth 10000
set_option maxHeartbeats 4000000
namespace Go.Proofs.YtkfbeijmgggkmaaGreat
abbrev gd:=@of_decide_eq_true
abbrev mu:=@of_decide_eq_false
abbrev oj:=@List.getElem?_eq_getElem
abbrev vj:=@Bool.and_eq_true
abbrev aq0:=@Nat.le_refl
abbrev aq1:=@List.length_append
abbrev aq2:=@List.mem_cons_of_mem
abbrev aq3:=@List.getD_eq_getElem?_getD
abbrev aq4:=@Option.some.injEq
abbrev aq5:=@List.mem_cons
abbrev aq6:=@Nat.eq_of_beq_eq_true
abbrev aq7:=@List.getElem?_eq_some_iff
abbrev aq8:=@Nat.zero_le
abbrev aq9:=@List.length_take
abbrev ar0:=@decide_eq_true
abbrev ar1:=@List.length_map
abbrev ar2:=@List.mem_cons_self
abbrev ar3:=@List.getElem?_cons_zero
abbrev ar4:=@List.map_cons
abbrev ar5:=@List.mem_singleton
abbrev ar6:=@Nat.lt_of_lt_of_le
abbrev ar7:=@List.length_replicate
abbrev ar8:=@List.mem_map_of_mem
abbrev ar9:=@List.take_length
abbrev as0:=@List.getElem?_map
abbrev as1:=@List.mem_append
abbrev as2:=@List.map_congr_left
abbrev as3:=@List.getElem_mem
abbrev as4:=@List.all_eq_true
abbrev as5:=@decide_eq_true_eq
abbrev as6:=@List.getElem?_append_left
abbrev as7:=@List.contains_iff_mem
abbrev as8:=@List.nodup_cons
abbrev as9:=@List.mem_map
abbrev at0:=@decide_eq_false
abbrev at1:=@List.getElem?_append_right
abbrev at2:=@List.take_of_length_le
abbrev at3:=@Option.map_eq_some_iff
abbrev at4:=@Option.isSome_iff_exists
abbrev at5:=@List.take_succ_eq_append_getElem
abbrev at6:=@List.append_nil
abbrev at7:=@List.map_map
abbrev at8:=@List.length_cons
abbrev at9:=@List.eq_nil_of_length_eq_zero
abbrev au0:=@List.map_append
abbrev au1:=@Nat.zero_add
abbrev au2:=@List.append_assoc
abbrev au3:=@List.getElem?_set_ne
abbrev au4:=@Bool.or_eq_false_iff
abbrev au5:=@List.mem_of_getElem?
abbrev au6:=@List.getElem?_take
abbrev au7:=@Array.toList_inj
abbrev au8:=@Nat.mul_le_mul_right
abbrev au9:=@List.length_drop
abbrev av0:=@List.getElem?_set_self
abbrev av1:=@Nat.mul_le_mul
abbrev av2:=@Decidable.byContradiction
abbrev av3:=@List.length_set
abbrev av4:=@Option.map_some
abbrev av5:=@Bool.or_eq_true
abbrev av6:=@List.drop_eq_getElem_cons
abbrev av7:=@Prod.mk.injEq
abbrev av8:=@List.nodup_nil
abbrev av9:=@Option.getD_some
abbrev aw0:=@List.getElem_of_mem
abbrev aw1:=@Array.getElem?_setIfInBounds_ne
abbrev aw2:=@Nat.le_trans
abbrev aw3:=@Nat.add_zero
abbrev aw4:=@Nat.succ_mul
abbrev aw5:=@Array.getElem?_eq_some_iff
abbrev aw6:=@List.getElem?_set
abbrev aw7:=@Bool.eq_false_iff
abbrev aw8:=@Nat.le_of_ble_eq_true
abbrev aw9:=@Int.toNat_natCast
abbrev ax0:=@Nat.div_lt_iff_lt_mul
abbrev ax1:=@List.getElem?_eq_none
abbrev ax2:=@List.flatMap_cons
abbrev ax3:=@List.mem_filter
abbrev ax4:=@List.mem_of_find?_eq_some
abbrev ax5:=@List.foldl_append
abbrev ax6:=@List.map_nil
abbrev ax7:=@Nat.not_lt_zero
abbrev ax8:=@Option.isNone_iff_eq_none
abbrev ax9:=@List.getElem?_cons_succ
abbrev ay0:=@List.nil_append
abbrev ay1:=@Int.ediv_nonneg
abbrev ay2:=@List.filterMap_cons
abbrev ay3:=@Bool.not_eq_true
theorem ay4 {p:Prop} (h:p:=by omega):p:=h
theorem ay5 {p:Prop} (h:p:=by decide):p:=h
theorem ay6 {p:Prop} (h:p:=by simp):p:=h
theorem ay7 {p:Prop} (h:p:=by kernel_rfl):p:=h
theorem ay8 {p:Prop} (h:p:=by rfl):p:=h
theorem az0 {p:Prop} (h:p:=by assumption):p:=h
theorem az1 {p:Prop} (h:p:=by rw[ah];simp[Op.operands]):p:=h
theorem az2 {p:Prop} (h:p:=by omega):p:=h
theorem az3 {p:Prop} (h:p:=by simpa using h):p:=h
theorem az4 {p:Prop} (h:p:=by cases h):p:=h
theorem az5 {p:Prop} (h:p:=by rw[ah];simp[Op.operands,Call.operands]):p:=h
theorem az6 {p:Prop} (h:p:=by rw[gk];decide):p:=h
theorem az7 {p:Prop} (h:p:=by exact aC):p:=h
theorem az8 {p:Prop} (h:p:=by simp;omega):p:=h
theorem az9 {p:Prop} (h:p:=by unfold b4;rw[H]):p:=h
theorem aA0 {p:Prop} (h:p:=by rw[h'];intro h;cases h):p:=h
theorem aA1 {p:Prop} (h:p:=by rw[cd,if_pos rfl]):p:=h
theorem aA2 {p:Prop} (h:p:=by rw[aq9];omega):p:=h
theorem aA3 {p:Prop} (h:p:=by rw[hx];intro h;cases h):p:=h
theorem aA4 {p:Prop} (h:p:=by have:=mu J;omega):p:=h
theorem aA5 {p:Prop} (h:p:=by simpa using V):p:=h
theorem aA6 {p:Prop} (h:p:=by simpa using ay):p:=h
theorem aA7 {p:Prop} (h:p:=by have:=gd J;omega):p:=h
theorem aA8 {p:Prop} (h:p:=by simp[bB.has,Nat.beq_eq]):p:=h
theorem aA9 {p:Prop} (h:p:=by simp only[maxLen];omega):p:=h
theorem aB0 {p:Prop} (h:p:=by rw[cC];omega):p:=h
theorem aB1 {p:Prop} (h:p:=by exact oe hx):p:=h
theorem aB2 {p:Prop} (h:p:=by simp[aQ] at V;exact V):p:=h
theorem aB3 {p:Prop} (h:p:=by simp only[execOp,ah,Sem.run_bind,ae,ao,ax,Result.andThen_ok,Sem.run_pure]):p:=h
theorem aB4 {p:Prop} (h:p:=by rw[BitVec.toNat_ofInt];omega):p:=h
theorem aB5 {p:Prop} (h:p:=by simp at h;omega):p:=h
theorem aB6 {p:Prop} (h:p:=by rw[j8,au];rfl):p:=h
theorem aB7 {p:Prop} (h:p:=by rw[h.ey.eS];exact J):p:=h
theorem aB8 {p:Prop} (h:p:=by simp[U]):p:=h
theorem aB9 {p:Prop} (h:p:=by simpa using hx):p:=h
theorem aC0 {p:Prop} (h:p:=by simpa using E):p:=h
theorem aC1 {p:Prop} (h:p:=by simpa using ak):p:=h
theorem aC2 {p:Prop} (h:p:=by rw[ae];generalize 2 ^z=P at*;omega):p:=h
abbrev aC3:=List UInt8
abbrev aC4:=List Nat
end Go.Proofs.YtkfbeijmgggkmaaGreat
namespace Go.Proofs.YtkfbeijmgggkmaaGreat
open Go.RowKit Go.Proofs
section
structure cS (S:Nat->Prop) (w w':World):Prop where
 os:w'.os=w.os
 tape:w'.tape=w.tape
 output:w'.output=w.output
 size:w.heap.size<=w'.heap.size
 block: ∀k,k < w.heap.size-> ¬S k->w'.heap[k]? =w.heap[k]?
theorem cS.refl (S:Nat->Prop) (w:World):cS S w w:=⟨rfl,rfl,rfl,aq0 _,fun _ _ _=>rfl⟩
theorem cS.trans {S:Nat->Prop} {a b c:World} (h:cS S a b) {S':Nat->Prop} (k:cS S' b c) (aw: ∀i,i < a.heap.size->S' i->S i):cS S a c:=
 ⟨k.os.trans h.os,k.tape.trans h.tape,k.output.trans h.output,aw2 h.size k.size,
  fun i aF hn=>(k.block i (ar6 aF h.size) (fun x=>hn (aw i aF x))).trans (h.block i aF hn)⟩
theorem cS.mono {S S':Nat->Prop} {w w':World} (h:cS S w w') (aw: ∀i,i < w.heap.size->S i->S' i):cS S' w w':=
 ⟨h.os,h.tape,h.output,h.size,fun i aF hn=>h.block i aF (fun x=>hn (aw i aF x))⟩
theorem cS.pq {S:Nat->Prop} {w w':World} (h:Below w.heap.size w w'):cS S w w':=
 ⟨h.os,h.tape,h.output,h.size,fun i aF _=>h.block i aF⟩
theorem cS.below {S:Nat->Prop} {B:Nat} {w w':World} (h:cS S w w') (c5:B<=w.heap.size) (aw: ∀i,i < B-> ¬S i):Below B w w':=
 ⟨h.os,h.tape,h.output,h.size,fun i aF=>h.block i ay4 (aw i aF)⟩
theorem l3 {w:World} {b:Nat} {o:Obj} (h:w.heap[b]? =some o):b < w.heap.size:=by
 rcases Nat.lt_or_ge b w.heap.size with bt |vO
 .exact bt
 .rw[Array.getElem?_eq_none vO] at h;cases h
def fC (D:Nat->Prop) (w:World) (size:Nat) (v:Value) (n:Nat) (xs:List Value):Prop:=
 xs.length=n*size/\ ∃A c,v= .slice A n c/\n<=c/\c<=maxLen/\
  (0 < n-> ∃b o,A=some ⟨b,o,none⟩/\D b/\b < w.heap.size/\ ∀j u,xs[j]? =some u->w.cell? ⟨b,o+j,none⟩=some u)
def ta (D:Nat->Prop) (w w':World):Prop:= ∀i,i < w.heap.size->D i->w'.heap[i]? =w.heap[i]?
theorem ta.refl (D:Nat->Prop) (w:World):ta D w w:=fun _ _ _=>rfl
theorem ta.cell {D:Nat->Prop} {w w':World} (h:ta D w w') {p:Addr} {v:Value} (ai:w.cell? p=some v) (aw:D p.block):w'.cell? p=some v:=
 (World.cell?_of_block (h p.block (World.block_lt_of_cell? w p ai) aw)).trans ai
theorem ta.pq {D:Nat->Prop} {w w':World} (h:Below w.heap.size w w'):ta D w w':=fun i aF _=>h.block i aF
theorem fC.mono {D Bv:Nat->Prop} {w w':World} {size n:Nat} {v:Value} {xs:List Value} (h:fC D w size v n xs) (aa:ta D w w') (hw:w.heap.size<=w'.heap.size) (H: ∀i,i < w.heap.size->D i->Bv i):fC Bv w' size v n xs:=by
 obtain⟨ak,A,c,rfl,E,G,af⟩:=h;refine⟨ak,A,c,rfl,E,G,fun hn=>?_⟩;obtain⟨b,o,rfl,cf,O,J⟩:=af hn;exact⟨b,o,rfl,H b O cf,ay4,fun j u V=>aa.cell (J j u V) cf⟩
theorem fC.nil (D:Nat->Prop) (w:World) (size:Nat):fC D w size (.slice none 0 0) 0 []:=⟨ay6,none,0,rfl,aq0 _,ay5,fun h=>absurd h ay4⟩
theorem fC.at_ {D:Nat->Prop} {w:World} {size n:Nat} {v:Value} {xs:List Value} (h:fC D w size v n xs) (hn:0 < n):
  ∃b o c,v= .slice (some ⟨b,o,none⟩) n c/\n<=c/\c<=maxLen/\D b/\b < w.heap.size/\ ∀j u,xs[j]? =some u->w.cell? ⟨b,o+j,none⟩=some u:=by
 obtain⟨ak,A,c,rfl,E,G,af⟩:=h;obtain⟨b,o,rfl,cf,O,J⟩:=af hn;exact⟨b,o,c,rfl,E,G,cf,O,J⟩
def hj (c:UInt8):Value:=.int .u8 c.toNat
def qa (D:Nat->Prop) (w:World) (v:Value) (l:aC3):Prop:=fC D w 1 v l.length (l.map hj)
theorem qa.form {D:Nat->Prop} {w:World} {v:Value} {l:aC3} (h:qa D w v l): ∃A c,v= .slice A l.length c/\l.length<=c/\c<=maxLen:=by
 obtain⟨_,A,c,rfl,E,G,_⟩:=h;exact⟨A,c,rfl,E,G⟩
theorem pr (b o j:Nat):(⟨b,o,none⟩:Addr).add j=⟨b,o+j,none⟩:=by
 unfold Addr.add
 split
 .rename_i h;subst h;rfl
 .rfl
theorem Yd {P:Program} (w:World) (base:Nat) (t ty e:TypeId) (i:TypeInfo) (size:Nat) (cq:P.underlying t=some (.slice e)) (aF:P.info? e=some i)
  (v:Value) (n:Nat) (xs:List Value) (dw:w.ownsRow base e size v n xs) (c:Nat):(Builtin.append_ #[t,t] ty #[v,.slice none 0 c]).run P w= .ok v w:=by
 rcases dw.2 with⟨rfl,rfl⟩ |⟨g,cap,c9,rfl,_,_,Ev,_⟩
 .simp[Builtin.append_,run_underlying cq,sizeOf,typeInfo,aF,Builtin.lenOf,Builtin.firstCells]
 .simp[Builtin.append_,run_underlying cq,sizeOf,typeInfo,aF,Builtin.lenOf,Builtin.firstCells,Ev,storeCells]
theorem IE {P:Program} (w:World) (base:Nat) (t ty e:TypeId) (i:TypeInfo) (aB:Value) (size bytes:Nat) (cq:P.underlying t=some (.slice e)) (aF:P.info? e=some i) (aN:i.zero=some aB)
  (y9:i.size=size) (uf:i.bytes=bytes) (nL:aB.cells.size=size) (cC:0 < size)
  (v:Value) (n:Nat) (xs:List Value) (dw:w.ownsRow base e size v n xs)
  (D:Nat->Prop) (h9:Value) (m:Nat) (e0:List Value) (ax:fC D w size h9 m e0) (E: ∀u∈e0,u.oneCell'=true)
  (Bw:n+m<=maxLen) (Bx:(n+m)*bytes<=140737488355328) (By:base<=w.heap.size):
  ∃df w',(Builtin.append_ #[t,t] ty #[v,h9]).run P w= .ok df w'/\w'.ownsRow base e size df (n+m) (xs++e0)/\w.grownBy w' v.ownBlock/\
   (df.ownBlock=v.ownBlock\/df.ownBlock=some w.heap.size):=by
 obtain⟨ak,A,c,rfl,_,_,af⟩:=ax;rcases A with _ |ad
 .have aA:m=0:=by
   rcases Nat.eq_zero_or_pos m with au |au
   .exact au
   .obtain⟨b,o,h,_⟩:=af au
    cases h
  subst aA;have hn:e0=[]:=at9 aC1;subst hn;exact⟨v,w,Yd w base t ty e i size cq aF v n xs dw c,by simpa using dw,World.grownBy.refl w _,.inl rfl⟩
 .have xg: ∀j u,e0[j]? =some u->w.cell? (ad.add j)=some u:=by
   intro j u a6;rcases Nat.eq_zero_or_pos m with au |au
   .subst au;have hn:e0=[]:=at9 aC1;subst hn;simp at a6
   .obtain⟨b,o,h,_,_,J⟩:=af au;injection h with h
    subst h;rw[pr];exact J j u a6
  obtain⟨df,w',dN,G,aW,_,bG⟩:=run_append_own_at (P:=P) w base t ty e i aB size bytes cq aF aN y9 uf nL cC v n xs dw ad m c e0 ak xg E Bw Bx By;exact⟨df,w',dN,G,aW,bG⟩
theorem Ye {P:Program} (w:World) {o:Oper} {a:Act} {K:Act->World->Prop} {Q:Exit->Act->World->Prop} (s x:Operand) (t:TypeId)
  (ah:o.op= .call {callee:=.builtin .append,args:= #[s,x],argTypes:= #[t,t]})
  (base:Nat) (e:TypeId) (aB:Value) (size bytes:Nat) (cq:P.underlying t=some (.slice e)) (qb:(P.info? e).map (fun i=>(i.zero,i.size,i.bytes))=some (some aB,size,bytes)) (nL:aB.cells.size=size) (cC:0 < size)
  (v:Value) (n:Nat) (xs:List Value) (aw:a.eval s=v) (dw:w.ownsRow base e size v n xs)
  (D:Nat->Prop) (h9:Value) (m:Nat) (e0:List Value) (hx:a.eval x=h9) (ax:fC D w size h9 m e0) (E: ∀u∈e0,u.oneCell'=true)
  (Bw:n+m<=maxLen) (Bx:(n+m)*bytes<=140737488355328) (By:base<=w.heap.size)
  (h: ∀df w',w'.ownsRow base e size df (n+m) (xs++e0)->w.grownBy w' v.ownBlock->(df.ownBlock=v.ownBlock\/df.ownBlock=some w.heap.size)->K (a.put o.dst df) w'):o.wp P a w K Q:=by
 obtain⟨i,aF,aN,y9,uf⟩:=info_parts qb;obtain⟨df,w',dN,G,af,aW⟩:=IE (P:=P) w base t o.type e i aB size bytes cq aF aN y9 uf nL cC v n xs dw D h9 m e0 ax E Bw Bx By;unfold Oper.wp execOp;simp only[ah,resolve,invoke,builtin,Sem.run_bind,Sem.run_pure,Result.andThen_ok,List.map_toArray,ar4,ax6,aw,hx,dN];exact h df w' G af aW
theorem O4 {P:Program} (w:World) {c':Array Oper} {rest:List Oper} {o:Oper} {a:Act} {Q:Exit->Act->World->Prop} (nM:o.guard=none) (s x:Operand) (t:TypeId)
  (ah:o.op= .call {callee:=.builtin .append,args:= #[s,x],argTypes:= #[t,t]})
  (base:Nat) (e:TypeId) (aB:Value) (size bytes:Nat) (cq:P.underlying t=some (.slice e)) (qb:(P.info? e).map (fun i=>(i.zero,i.size,i.bytes))=some (some aB,size,bytes)) (nL:aB.cells.size=size) (cC:0 < size)
  (v:Value) (n:Nat) (xs:List Value) (aw:a.eval s=v) (dw:w.ownsRow base e size v n xs)
  (D:Nat->Prop) (h9:Value) (m:Nat) (e0:List Value) (hx:a.eval x=h9) (ax:fC D w size h9 m e0) (E: ∀u∈e0,u.oneCell'=true)
  (Bw:n+m<=maxLen) (Bx:(n+m)*bytes<=140737488355328) (By:base<=w.heap.size)
  (h: ∀df w',w'.ownsRow base e size df (n+m) (xs++e0)->w.grownBy w' v.ownBlock->(df.ownBlock=v.ownBlock\/df.ownBlock=some w.heap.size)->wpList P c' Q rest (a.put o.dst df) w'):wpList P c' Q (o::rest) a w:=
 wpList_plain nM fun _ cV=>Ye w s x t ah base e aB size bytes cq qb nL cC v n xs aw dw D h9 m e0 hx ax E Bw Bx By fun df w' G af aW=>cV _ _ (h df w' G af aW)
theorem IF (l:aC3): ∀u∈l.map hj,u.oneCell'=true:=by
 intro u a6;obtain⟨c,_,rfl⟩:=as9.1 a6;rfl
theorem fC.ps {w:World} {base:Nat} {e:TypeId} {size n:Nat} {v:Value} {xs:List Value} (h:w.ownsRow base e size v n xs):fC (fun i=>v.ownBlock=some i) w size v n xs:=by
 refine⟨h.1,?_⟩;rcases h.2 with⟨rfl,rfl⟩ |⟨g,cap,c9,rfl,aZ,bf,E,G,af,aW⟩
 .exact⟨none,0,rfl,aq0 _,ay5,fun h=>absurd h ay4⟩
 .refine⟨_,cap,rfl,E,G,fun _=>⟨g,0,rfl,rfl,(h.lt g rfl).2,fun j u V=>?_⟩⟩;have:=h.cells (g:=g) rfl j u V
  rwa[pr] at this
theorem fC.za {D Bv:Nat->Prop} {w:World} {size n:Nat} {v:Value} {xs:List Value} (h:fC D w size v n xs) (H: ∀i,i < w.heap.size->D i->Bv i):fC Bv w size v n xs:=h.mono (ta.refl _ _) (aq0 _) H
theorem eI {W dX:World} (O:Below W.heap.size W dX) {p:Addr} {v:Value} (h:W.cell? p=some v):dX.cell? p=some v:=
 (O.cell (World.block_lt_of_cell? W p h)).trans h
theorem fC.below {D:Nat->Prop} {w w':World} {size n:Nat} {v:Value} {xs:List Value} (h:fC D w size v n xs) (O:Below w.heap.size w w'):fC D w' size v n xs:=
 h.mono (ta.pq O) O.size fun _ _ h=>h
theorem tb (w:World) (o:Obj):Below w.heap.size w (w.alloc o):=(Below.refl _ _).alloc (aq0 _) _
theorem Yf (w:World):Below w.heap.size w w.drew:=(Below.refl _ _).drew
def aO (B:Nat) (v:Value):Nat->Prop:=fun i=>B<=i/\v.ownBlock≠some i
theorem O5 {w w':World} {row:Option Nat} {S:Nat->Prop} (aZ:w.grownBy w' row) (ax: ∀k,row=some k->S k):cS S w w':=
 ⟨aZ.os,aZ.tape,aZ.output,aZ.size,fun k aa hn=>aZ.block k aa (fun e=>hn (ax k e.symm))⟩
theorem Yg {D:Nat->Prop} {w:World} {m:Nat} {h9:Value} {ys:List Value} (h:fC D w 1 h9 m ys) (ug:Nat):
  ∃sp Ew,h9= .slice sp m Ew/\(ys.take ug).length=Nat.min m ug/\(0 < (ys.take ug).length-> ∃ad,sp=some ad/\ ∀j v,(ys.take ug)[j]? =some v->w.cell? (ad.add j)=some v):=by
 obtain⟨ak,A,c,rfl,_,_,af⟩:=h;have qc:ys.length=m:=az2
 have Bz:(ys.take ug).length=Nat.min m ug:=by rw[aq9,qc];exact Nat.min_comm _ _
 refine⟨A,c,rfl,Bz,fun ai=>?_⟩
 have aA:0 < m:=by
  have:=Nat.min_le_left m ug;have e:min m ug=Nat.min m ug:=rfl;omega
 obtain⟨b,o,rfl,_,_,J⟩:=af aA;refine⟨_,rfl,fun j v V=>?_⟩;rw[pr];refine J j v ?_;rw[au6] at V
 split at V
 .exact V
 .cases V
theorem Yh {P:Program} (w:World) (h9 dst e:TypeId) (s:ByteArray) (aw:P.underlying h9=some .string) (H:P.underlying dst=some (.slice e)) (U:P.underlying e=some (.int .u8)) (aA:s.size<=4294967296):
  ∃cap dX,(convert h9 dst (.string s)).run P w= .ok (.slice (some ⟨w.heap.size,0,none⟩) s.size cap) dX/\qa (fun i=>w.heap.size<=i) dX (.slice (some ⟨w.heap.size,0,none⟩) s.size cap) s.data.toList/\Below w.heap.size w dX:=by
 refine⟨_,_,Lib.run_convert_string_bytes w h9 dst e s aw H U,?_,?_⟩
 .have ak:s.data.toList.length=s.size:=by simp
  unfold qa;rw[ak];refine⟨by rw[ar1,ak];omega,_,_,rfl,grownCap_ge _ _ _ _,grownCap_le_maxLen _ _ _ _ aA9,fun _=>⟨_,0,rfl,aq0 _,by rw[Lib.bytesWorld_size];omega,fun j u V=>?_⟩⟩
  have sb:j < s.data.toList.length:=by
   have:=(aq7.1 V).1;simpa using this
  rw[au1,Lib.bytesWorld_cell w e s j ay4];rw[as0,oj sb] at V;simp only[av4,aq4] at V;rw[<-V,aq3,oj sb];rfl
 .exact⟨rfl,rfl,rfl,by rw[Lib.bytesWorld_size];omega,fun k aa=>Lib.bytesWorld_at_old w e s k aa⟩
theorem O6 {P:Program} {D:Nat->Prop} {w:World} {A:Option Addr} {n c:Nat} {l:aC3} (h:qa D w (.slice A n c) l) (h9 dst e:TypeId) (aw:P.underlying h9=some (.slice e)) (U:P.underlying e=some (.int .u8)) (H:P.underlying dst=some .string):
  (convert h9 dst (.slice A n c)).run P w= .ok (.string ⟨l.toArray⟩) w:=by
 obtain⟨ak,A',b9,ay,_,_,af⟩:=h;injection ay with ae ao bm
 subst ae ao bm;rcases A with _ |ad
 .have au:l=[]:=by
   rcases Nat.eq_zero_or_pos l.length with h |h
   .exact at9 h
   .obtain⟨b,o,ha,_⟩:=af h;cases ha
  subst au;exact run_convert_bytes_nil w h9 e aw U _ _ dst H
 .refine run_convert_bytes_back w h9 dst e ad _ l aw U H fun j V=>?_
  obtain⟨b,o,ha,_,_,J⟩:=af ay4;injection ha with ha
  subst ha;rw[pr];exact J j _ (by simp[oj V,hj])
theorem IG {w:World} (o:Obj) {g:Nat} (h:g=w.heap.size):(w.alloc o).heap[g]? =some o:=by subst h;exact heap_alloc_new w o
end
section
inductive bz where
 |int (k:IntKind)
 |u8
 |bool
 |str
 |aM
 |dm
 |fn
 |b' (u:bz)
 |bP (u v:bz)
 |arr (n:Nat) (u:bz)
def Z:bz->Type
 | .int _=>Int
 | .u8=>UInt8
 | .bool=>Bool
 | .str=>aC3
 | .aM=>Option Nat
 | .dm=>Option (Nat×Nat×Nat)
 | .fn=>Nat×aC4
 | .b' u=>List (Z u)
 | .bP u v=>Z u×Z v
 | .arr _ u=>List (Z u)
def aQ:bz->Nat
 | .int _=>1
 | .u8=>1
 | .bool=>1
 | .str=>1
 | .aM=>1
 | .dm=>1
 | .fn=>1
 | .b' _=>1
 | .bP u v=>aQ u+aQ v
 | .arr n u=>n*aQ u
def cO:(u:bz)->Z u
 | .int _=>(0:Int)
 | .u8=>(0:UInt8)
 | .bool=>false
 | .str=>([]:aC3)
 | .aM=>(none:Option Nat)
 | .dm=>(none:Option (Nat×Nat×Nat))
 | .fn=>((0,[]):Nat×aC4)
 | .b' _=>[]
 | .bP u v=>(cO u,cO v)
 | .arr n u=>List.replicate n (cO u)
inductive D where
 |int (k:IntKind) (n:Int)
 |lit (b:Bool)
 |bool (b:Bool)
 |str (s:aC3)
 |aM (x:Option Nat)
 |dm (x:Option (Nat×Nat×Nat))
 |fn (x:Nat×aC4)
 |co (u:bz) (xs:List (Z u))
def fD:(u:bz)->Z u->Nat->D
 | .int k,n,_=>.int k n
 | .u8,b,_=>.int .u8 (UInt8.toNat b:Int)
 | .bool,b,_=>.bool b
 | .str,s,_=>.str s
 | .aM,x,_=>.aM x
 | .dm,x,_=>.dm x
 | .fn,x,_=>.fn x
 | .b' u,xs,_=>.co u xs
 | .bP u v,p,j=>match Nat.blt j (aQ u) with
  |true=>fD u p.1 j
  |false=>fD v p.2 (j - aQ u)
 | .arr _ u,xs,j=>fD u (List.getD xs (j/aQ u) (cO u)) (j % aQ u)
def fE {α:Type} (xs:List α) (i:Nat):Option α:=xs[i]?
def Ex {α:Type} (x:α) (xs:List α):Prop:=x∈xs
theorem Yi {α:Type} (xs:List α) (i:Nat) (d:α) (h:i < xs.length):fE xs i=some (xs.getD i d):=by
 unfold fE;rw[aq3,oj h];rfl
theorem Yj {α:Type} {xs:List α} {i:Nat} {y:α} (d:α) (h:fE xs i=some y):xs.getD i d=y:=by
 unfold fE at h;rw[aq3,h];rfl
theorem BA {α:Type} {xs:List α} {i:Nat} {y:α} (h:fE xs i=some y):i < xs.length:=(aq7.1 h).1
theorem Yk {α:Type} {xs:List α} {i:Nat} {y:α} (h:fE xs i=some y):Ex y xs:=au5 h
def oK:(u:bz)->Z u->Prop
 | .bP u v,p=>oK u p.1/\oK v p.2
 | .arr n u,xs=>List.length xs=n/\ ∀x,Ex (α:=Z u) x xs->oK u x
 |_,_=>True
def nN:Option Nat->Option Addr
 |none=>none
 |some b=>some ⟨b,0,none⟩
def q1:Option (Nat×Nat×Nat)->Value
 |none=>.slice none 0 0
 |some (b,n,cap)=>.slice (some ⟨b,0,none⟩) n cap
def q2:aC4->List Value
 | []=>[]
 |b::l=>.pointer (some ⟨b,0,none⟩)::q2 l
def mA (x:Nat×aC4):Value:=.func (.func x.1) #[] (List.toArray (q2 x.2))
def cu (I:Nat->Prop) (w:World):(u:bz)->Z u->(Nat->Option Value)->Prop
 | .int k,n,c=>c 0=some (.int k n)
 | .u8,b,c=>c 0=some (.int .u8 (UInt8.toNat b:Int))
 | .bool,b,c=>c 0=some (.bool b)
 | .str,s,c=>c 0=some (.string ⟨List.toArray s⟩)
 | .aM,x,c=>c 0=some (.pointer (nN x))
 | .dm,x,c=>c 0=some (q1 x)
 | .fn,x,c=>c 0=some (mA x)
 | .b' u,xs,c=> ∃A cap,c 0=some (.slice A (List.length xs) cap)/\List.length xs<=cap/\cap<=maxLen/\
  (0 < List.length xs-> ∃b o,A=some ⟨b,o,none⟩/\I b/\ ∀i x,fE (α:=Z u) xs i=some x->cu I w u x (fun j=>w.cell? ⟨b,o+(i*aQ u+j),none⟩))
 | .bP u v,p,c=>cu I w u p.1 c/\cu I w v p.2 (fun j=>c (aQ u+j))
 | .arr n u,xs,c=>List.length xs=n/\ ∀i x,fE (α:=Z u) xs i=some x->cu I w u x (fun j=>c (i*aQ u+j))
def gK (I:Nat->Prop) (w:World):D->Value->Prop
 | .int k n,v=>v= .int k n
 | .lit b,v=>v= .bool b
 | .bool b,v=>v= .bool b
 | .str s,v=>v= .string ⟨s.toArray⟩
 | .aM x,v=>v= .pointer (nN x)
 | .dm x,v=>v=q1 x
 | .fn x,v=>v=mA x
 | .co u xs,v=>cu I w (.b' u) xs (fun _=>some v)
def cm (I:Nat->Prop) (w:World) (I':Nat->Prop) (w':World):Prop:= ∀b,I b->I' b/\w'.heap[b]? =w.heap[b]?
section
variable {I I':Nat->Prop} {w w':World}
theorem cm.refl (I:Nat->Prop) (w:World):cm I w I w:=fun _ h=>⟨h,rfl⟩
theorem cm.trans {O7:Nat->Prop} {O8:World} (h:cm I w I' w') (k:cm I' w' O7 O8):cm I w O7 O8:=fun b O=>⟨(k b (h b O).1).1,(k b (h b O).1).2.trans (h b O).2⟩
theorem O9 {b o:Nat} {v:Value} (h:w'.heap[b]? =w.heap[b]?) (J:w.cell? ⟨b,o,none⟩=some v):w'.cell? ⟨b,o,none⟩=some v:=
 (World.cell?_of_block (a:=⟨b,o,none⟩) h).trans J
theorem cu.mono (U:cm I w I' w'): ∀(u:bz) (x:Z u) (c b9:Nat->Option Value),(∀j v,c j=some v->b9 j=some v)->cu I w u x c->cu I' w' u x b9:=by
 intro u
 induction u with
 |int k=>exact fun x c b9 J h=>J _ _ h
 |u8=>exact fun x c b9 J h=>J _ _ h
 |bool=>exact fun x c b9 J h=>J _ _ h
 |str=>exact fun x c b9 J h=>J _ _ h
 |aM=>exact fun x c b9 J h=>J _ _ h
 |dm=>exact fun x c b9 J h=>J _ _ h
 |fn=>exact fun x c b9 J h=>J _ _ h
 |b' u bq=>
  rintro x c b9 J ⟨A,cap,au,E,G,af⟩;refine⟨A,cap,J _ _ au,E,G,fun ak=>?_⟩;obtain⟨b,o,eQ,a8,hx⟩:=af ak;exact⟨b,o,eQ,(U b a8).1,fun i y aD=>bq _ _ _ (fun j v ay=>O9 (U b a8).2 ay) (hx i y aD)⟩
 |bP u v oL oM=>exact fun x c b9 J h=>⟨oL _ _ _ J h.1,oM _ _ _ (fun j v ay=>J _ _ ay) h.2⟩
 |arr n u bq=>exact fun x c b9 J h=>⟨h.1,fun i y aD=>bq _ _ _ (fun j v ay=>J _ _ ay) (h.2 i y aD)⟩
theorem gK.mono (U:cm I w I' w'): ∀(x:D) (v:Value),gK I w x v->gK I' w' x v
 | .int _ _,_,h=>h
 | .lit _,_,h=>h
 | .bool _,_,h=>h
 | .str _,_,h=>h
 | .aM _,_,h=>h
 | .dm _,_,h=>h
 | .fn _,_,h=>h
 | .co u xs,v,h=>cu.mono U (.b' u) xs (fun _=>some v) (fun _=>some v) (fun _ _ h=>h) h
theorem Ey {j n s:Nat} (h:j < n*s):j/s < n/\j % s < s/\j/s*s+j % s=j:=by
 have aw:0 < s:=by
  rcases Nat.eq_zero_or_pos s with au |au
  .subst au;simp at h
  .exact au
 exact⟨(ax0 aw).2 h,Nat.mod_lt _ aw,by rw[Nat.mul_comm];exact Nat.div_add_mod j s⟩
theorem cu.cell: ∀(u:bz) (x:Z u) (c:Nat->Option Value) (j:Nat),cu I w u x c->j < aQ u-> ∃v,c j=some v/\gK I w (fD u x j) v:=by
 intro u
 induction u with
 |int k=>exact fun x c j h V=>⟨_,(by
       have:j=0:=aB2
       subst this;exact h),rfl⟩
 |u8=>exact fun x c j h V=>⟨_,(by
    have:j=0:=aB2
    subst this;exact h),rfl⟩
 |bool=>exact fun x c j h V=>⟨_,(by
      have:j=0:=aB2
      subst this;exact h),rfl⟩
 |str=>exact fun x c j h V=>⟨_,(by
     have:j=0:=aB2
     subst this;exact h),rfl⟩
 |aM=>exact fun x c j h V=>⟨_,(by
     have:j=0:=aB2
     subst this;exact h),rfl⟩
 |dm=>exact fun x c j h V=>⟨_,(by
     have:j=0:=aB2
     subst this;exact h),rfl⟩
 |fn=>exact fun x c j h V=>⟨_,(by
    have:j=0:=aB2
    subst this;exact h),rfl⟩
 |b' u _=>
  intro x c j h V;have:j=0:=aB2
  subst this;obtain⟨A,cap,au,E⟩:=h;exact⟨_,au,A,cap,rfl,E⟩
 |bP u v oL oM=>
  intro x c j h V;simp only[aQ] at V;unfold fD
  by_cases bt:j < aQ u
  .rw[show Nat.blt j (aQ u)=true by simpa[Nat.blt_eq] using bt];exact oL _ _ _ h.1 bt
  .rw[show Nat.blt j (aQ u)=false by rw[aw7];simpa[Nat.blt_eq] using bt];have:=oM _ _ (j - aQ u) h.2 ay4
   rwa[show aQ u+(j - aQ u)=j by omega] at this
 |arr n u bq=>
  intro x c j h V;obtain⟨ae,ao,bm⟩:=Ey (by simpa[aQ] using V);have ak:j/aQ u < List.length x:=by rw[h.1];exact ae
  have aZ:fE (α:=Z u) x (j/aQ u)=some (List.getD x (j/aQ u) (cO u)):=Yi (α:=Z u) x _ _ ak;have:=bq _ _ (j % aQ u) (h.2 _ _ aZ) ao;rw[bm] at this;exact this
theorem cu.mk: ∀(u:bz) (x:Z u) (c:Nat->Option Value),oK u x->(∀j,j < aQ u-> ∃v,c j=some v/\gK I w (fD u x j) v)->cu I w u x c:=by
 intro u
 induction u with
 |int k=>intro x c _ h;obtain⟨v,E,G⟩:=h 0 (by simp[aQ]);rw[show v=_ from G] at E;exact E
 |u8=>intro x c _ h;obtain⟨v,E,G⟩:=h 0 (by simp[aQ]);rw[show v=_ from G] at E;exact E
 |bool=>intro x c _ h;obtain⟨v,E,G⟩:=h 0 (by simp[aQ]);rw[show v=_ from G] at E;exact E
 |str=>intro x c _ h;obtain⟨v,E,G⟩:=h 0 (by simp[aQ]);rw[show v=_ from G] at E;exact E
 |dm=>intro x c _ h;obtain⟨v,E,G⟩:=h 0 (by simp[aQ]);rw[show v=_ from G] at E;exact E
 |fn=>intro x c _ h;obtain⟨v,E,G⟩:=h 0 (by simp[aQ]);rw[show v=_ from G] at E;exact E
 |aM=>intro x c _ h;obtain⟨v,E,G⟩:=h 0 (by simp[aQ]);rw[show v=_ from G] at E;exact E
 |b' u _=>
  intro x c _ h;obtain⟨v,E,A,cap,G,af⟩:=h 0 (by simp[aQ]);exact⟨A,cap,E.trans G,af⟩
 |bP u v oL oM=>
  intro x c hw h;refine⟨oL _ _ hw.1 fun j V=>?_,oM _ _ hw.2 fun j V=>?_⟩
  .obtain⟨v,E,G⟩:=h j (by simp only[aQ];omega);unfold fD at G;rw[show Nat.blt j (aQ u)=true by simpa[Nat.blt_eq] using V] at G;exact⟨v,E,G⟩
  .obtain⟨df,E,G⟩:=h (aQ u+j) (by simp only[aQ];omega);unfold fD at G;rw[show Nat.blt (aQ u+j) (aQ u)=false by rw[aw7];simp[Nat.blt_eq]] at G;rw[show aQ u+j - aQ u=j by omega] at G;exact⟨df,E,G⟩
 |arr n u bq=>
  intro x c hw h;refine⟨hw.1,fun i y aD=>bq _ _ (hw.2 y (Yk (α:=Z u) aD)) fun j V=>?_⟩;have aF:i < List.length x:=BA (α:=Z u) aD;have eb:i < n:=by rw[<-hw.1];exact aF
  have bt:i*aQ u+j < n*aQ u:=by
   have:=au8 (aQ u) eb;rw[aw4] at this;omega
  obtain⟨v,E,G⟩:=h (i*aQ u+j) bt;unfold fD at G
  have ae:(i*aQ u+j)/aQ u=i:=by
   rw[Nat.mul_comm,Nat.mul_add_div ay4,Nat.div_eq_of_lt V,aw3]
  have ao:(i*aQ u+j) % aQ u=j:=by
   rw[Nat.mul_comm,Nat.mul_add_mod,Nat.mod_eq_of_lt V]
  rw[ae,ao] at G;rw[show List.getD x i (cO u)=y from Yj (α:=Z u) _ aD] at G;exact⟨v,E,G⟩
end
structure bn where
 bk:Nat
 A:Option Addr
 n:Nat
 cap:Nat
def bn.ef (p:bn):Value:=.slice p.A p.n p.cap
inductive kZ where
 |p (c off:Nat)
 |d (x:D)
inductive bB where
 |d (x:D)
 |ptr (c off:Nat)
 |own (c:Nat)
 |el (u:bz) (x:Z u) (off:Nat)
 |gc (c s i off:Nat)
 |os (c s off n:Nat)
 |mp (c:Nat)
 |cY (f:FuncId) (l:List kZ)
 |dK
 |bJ (v:Value)
 |any
inductive dP where
 |one (s:bB)
 |agg (l:List bB)
 |kh (u:bz) (x:Z u)
inductive aP where
 |c (x:dP)
 |ci (l:List dP)
 |undef
structure bc where
 bo:(Nat->Prop)->(Nat->Prop)->World->bn->Prop
 cp: ∀(I F:Nat->Prop) (w:World) (I':Nat->Prop) (w':World) (p:bn),bo I F w p->cm I w I' w'->(∀b,F b->w'.heap[b]? =w.heap[b]?)->w.heap.size<=w'.heap.size->bo I' F w' p
inductive ba where
 |cells (l:List bB)
 |row (e:TypeId) (u:bz) (xs:List (Z u))
 |map (aI aK:bz) (es:List (Z aI×Z aK))
 |val (u:bz) (x:Z u)
 |aG (o:bc)
 |b5 (d:Nat) (o:bn->bc)
def xh (ρ:Nat->bn) (I:Nat->Prop) (w:World):kZ->Value->Prop
 | .p c off,v=>v= .pointer (some ⟨(ρ c).bk,off,none⟩)
 | .d x,v=>gK I w x v
def hW (ρ:Nat->bn) (I:Nat->Prop) (w:World):List kZ->List Value->Prop
 | [],aE=>aE=[]
 |s::l,aE=> ∃v r,aE=v::r/\xh ρ I w s v/\hW ρ I w l r
def dY (ρ:Nat->bn) (I:Nat->Prop) (w:World):bB->Value->Prop
 | .d x,v=>gK I w x v
 | .ptr c off,v=>v= .pointer (some ⟨(ρ c).bk,off,none⟩)
 | .own c,v=>v=(ρ c).ef
 | .el u x off,v=> ∃b o,v= .pointer (some ⟨b,o+off,none⟩)/\I b/\cu I w u x (fun j=>w.cell? ⟨b,o+j,none⟩)
 | .gc c s i off,v=>v= .pointer (some ⟨(ρ c).bk,i*s+off,none⟩)
 | .os c s off n,v=>v= .slice (if(ρ c).cap=off then(ρ c).A else(ρ c).A.map (·.add (off*s))) n ((ρ c).cap - off)
 | .mp c,v=>v= .map (some (ρ c).bk)
 | .cY f l,v=> ∃aE,v= .func (.func f) #[] (List.toArray aE)/\hW ρ I w l aE
 | .dK,v=>v= .slice none 0 0
 | .bJ u,v=>v=u
 | .any,_=>True
def cc (ρ:Nat->bn) (I:Nat->Prop) (w:World):List bB->List Value->Prop
 | [],aE=>aE=[]
 |s::l,aE=> ∃v r,aE=v::r/\dY ρ I w s v/\cc ρ I w l r
def gC (ρ:Nat->bn) (I:Nat->Prop) (w:World):dP->Value->Prop
 | .one s,v=>dY ρ I w s v
 | .agg l,v=> ∃aE,v= .agg (List.toArray aE)/\cc ρ I w l aE
 | .kh u x,v=> ∃aE,v= .agg (List.toArray aE)/\aE.length=aQ u/\cu I w u x (fun j=>aE[j]?)
def iU (ρ:Nat->bn) (I:Nat->Prop) (w:World):List dP->List Value->Prop
 | [],aE=>aE=[]
 |s::l,aE=> ∃v r,aE=v::r/\gC ρ I w s v/\iU ρ I w l r
def cw (ρ:Nat->bn) (I:Nat->Prop) (w:World):aP->Value->Prop
 | .c x,v=>gC ρ I w x v
 | .ci l,v=> ∃aE,v= .tuple (List.toArray aE)/\iU ρ I w l aE
 | .undef,v=>v=Go.undef
def gL:(u:bz)->Z u->Value
 | .int k,n=>.int k n
 | .str,s=>.string ⟨List.toArray s⟩
 |_,_=>.nilFunc
def m9:bz->Bool
 | .bP _ _=>false
 | .arr _ _=>false
 |_=>true
def jz (I:Nat->Prop) (w:World) (u:bz) (x:Z u) (v:Value):Prop:=v.cells.size=aQ u/\((m9 u=true->v.cells= #[v])/\(m9 u=false-> ∃cs,v= .agg cs))/\cu I w u x (fun j=>v.cells.toList[j]?)
def ir (I:Nat->Prop) (w:World) (aI aK:bz):List (Z aI×Z aK)->List MapEntry->Prop
 | [],es=>es=[]
 |p::l,es=> ∃e r,es=e::r/\e.key=gL aI p.1/\jz I w aK p.2 e.val/\ir I w aI aK l r
def l4 (es:List MapEntry) (bS:Nat):Prop:=(es.map (·.born)).Pairwise (· < ·)/\ ∀e,e∈es->e.born < bS
def gR (I:Nat->Prop) (w:World) (u:bz) (xs:List (Z u)) (cs:List Value):Prop:= ∀i x,xs[i]? =some x->cu I w u x (fun j=>cs[i*aQ u+j]?)
def Holds (ρ:Nat->bn) (I F:Nat->Prop) (w:World) (p:bn):ba->Prop
 | .cells l=>(∀b,F b↔b=p.bk)/\ ∃aE T,w.heap[p.bk]? =some (.cells (List.toArray aE) T (0,0))/\cc ρ I w l aE
 | .row e u xs=>(∀b,F b↔p.ef.ownBlock=some b)/\(∀b,p.ef.ownBlock=some b->b=p.bk)/\ ∃cs,w.ownsRow 0 e (aQ u) p.ef xs.length cs/\gR I w u xs cs
 | .map aI aK es=>(∀b,F b↔b=p.bk)/\ ∃bR bS,w.heap[p.bk]? =some (.map (List.toArray bR) bS)/\ir I w aI aK es bR/\l4 bR bS
 | .val u x=>(∀b,F b↔b=p.bk)/\ ∃aE T,w.heap[p.bk]? =some (.cells (List.toArray aE) T (0,0))/\aE.length=aQ u/\cu I w u x (fun j=>aE[j]?)
 | .aG o=>o.bo I F w p
 | .b5 d o=>(o (ρ d)).bo I F w p
def l5 (c:Nat):List kZ->Bool
 | []=>false
 | .p b _::l=>Nat.beq b c||l5 c l
 | .d _::l=>l5 c l
def bB.has (c:Nat):bB->Bool
 | .ptr b _=>Nat.beq b c
 | .own b=>Nat.beq b c
 | .gc b _ _ _=>Nat.beq b c
 | .os b _ _ _=>Nat.beq b c
 | .mp b=>Nat.beq b c
 | .cY _ l=>l5 c l
 |_=>false
def mB (c:Nat):List bB->Bool
 | []=>false
 |s::l=>s.has c||mB c l
def dP.has (c:Nat):dP->Bool
 | .one s=>s.has c
 | .agg l=>mB c l
 | .kh _ _=>false
def tc (c:Nat):List dP->Bool
 | []=>false
 |s::l=>s.has c||tc c l
def aP.has (c:Nat):aP->Bool
 | .c x=>x.has c
 | .ci l=>tc c l
 | .undef=>false
def ba.has (c:Nat):ba->Bool
 | .cells l=>mB c l
 | .b5 d _=>Nat.beq d c
 |_=>false
section
variable {ρ ρ':Nat->bn} {I I':Nat->Prop} {w w':World}
theorem hW.mono (U:cm I w I' w'): ∀(l:List kZ) (aE:List Value),(∀c,l5 c l=true->ρ' c=ρ c)->hW ρ I w l aE->hW ρ' I' w' l aE
 | [],_,_,h=>h
 | .p b o::l,_,dn,⟨v,r,e,E,G⟩=>⟨v,r,e,(by have e:=dn b (by simp[l5]);simp only[xh] at*;rw[e];exact E),hW.mono U l r (fun c J=>dn c (by simp[l5,J])) G⟩
 | .d x::l,_,dn,⟨v,r,e,E,G⟩=>⟨v,r,e,gK.mono U x v E,hW.mono U l r (fun c J=>dn c (by simpa[l5] using J)) G⟩
theorem dY.mono (U:cm I w I' w') (s:bB) (v:Value) (dn: ∀c,s.has c=true->ρ' c=ρ c) (h:dY ρ I w s v):dY ρ' I' w' s v:=by
 cases s with
 |d x=>exact gK.mono U x v h
 |ptr c off=>
  have e:=dn c aA8;simp only[dY] at*;rw[e];exact h
 |own c=>
  have e:=dn c aA8;simp only[dY] at*;rw[e];exact h
 |el u x off=>
  obtain⟨b,o,E,G,af⟩:=h;exact⟨b,o,E,(U b G).1,cu.mono U u x _ _ (fun j v ay=>O9 (U b G).2 ay) af⟩
 |gc c s i off=>
  have e:=dn c aA8;simp only[dY] at*;rw[e];exact h
 |os c s off n=>
  have e:=dn c aA8;simp only[dY] at*;rw[e];exact h
 |mp c=>
  have e:=dn c aA8;simp only[dY] at*;rw[e];exact h
 |cY f l=>obtain⟨aE,e,h⟩:=h;exact⟨aE,e,hW.mono U l aE dn h⟩
 |dK=>exact h
 |bJ u=>exact h
 |any=>trivial
theorem cc.mono (U:cm I w I' w'): ∀(l:List bB) (aE:List Value),(∀c,mB c l=true->ρ' c=ρ c)->cc ρ I w l aE->cc ρ' I' w' l aE
 | [],_,_,h=>h
 |s::l,_,dn,⟨v,r,e,E,G⟩=>⟨v,r,e,dY.mono U s v (fun c J=>dn c (by simp[mB,J])) E,cc.mono U l r (fun c J=>dn c (by simp[mB,J])) G⟩
theorem gC.mono (U:cm I w I' w') (s:dP) (v:Value) (dn: ∀c,s.has c=true->ρ' c=ρ c) (h:gC ρ I w s v):gC ρ' I' w' s v:=by
 cases s with
 |one s=>exact dY.mono U s v dn h
 |agg l=>obtain⟨aE,e,h⟩:=h;exact⟨aE,e,cc.mono U l aE dn h⟩
 |kh u x=>obtain⟨aE,e,E,G⟩:=h;exact⟨aE,e,E,cu.mono U u x _ _ (fun _ _ h=>h) G⟩
theorem iU.mono (U:cm I w I' w'): ∀(l:List dP) (aE:List Value),(∀c,tc c l=true->ρ' c=ρ c)->iU ρ I w l aE->iU ρ' I' w' l aE
 | [],_,_,h=>h
 |s::l,_,dn,⟨v,r,e,E,G⟩=>⟨v,r,e,gC.mono U s v (fun c J=>dn c (by simp[tc,J])) E,iU.mono U l r (fun c J=>dn c (by simp[tc,J])) G⟩
theorem cw.mono (U:cm I w I' w') (s:aP) (v:Value) (dn: ∀c,s.has c=true->ρ' c=ρ c) (h:cw ρ I w s v):cw ρ' I' w' s v:=by
 cases s with
 |c s=>exact gC.mono U s v dn h
 |ci l=>obtain⟨aE,e,h⟩:=h;exact⟨aE,e,iU.mono U l aE dn h⟩
 |undef=>exact h
theorem gR.mono (U:cm I w I' w') {u:bz} {xs:List (Z u)} {cs:List Value} (h:gR I w u xs cs):gR I' w' u xs cs:=fun i x hx=>cu.mono U u x _ _ (fun _ _ h=>h) (h i x hx)
theorem jz.mono (U:cm I w I' w') {u:bz} {x:Z u} {v:Value} (h:jz I w u x v):jz I' w' u x v:=⟨h.1,h.2.1,cu.mono U u x _ _ (fun _ _ h=>h) h.2.2⟩
theorem ir.mono (U:cm I w I' w') {aI aK:bz}: ∀{l:List (Z aI×Z aK)} {es:List MapEntry},ir I w aI aK l es->ir I' w' aI aK l es
 | [],_,h=>h
 |_::_,_,⟨e,r,au,E,G,af⟩=>⟨e,r,au,E,G.mono U,af.mono U⟩
theorem O' {e s n:Nat} {v:Value} {cs:List Value} (h:w.ownsRow 0 e s v n cs) (O: ∀b,v.ownBlock=some b->w'.heap[b]? =w.heap[b]?):w'.ownsRow 0 e s v n cs:=by
 refine⟨h.1,?_⟩;rcases h.2 with h |⟨g,cap,c9,ay,au,aZ,r⟩
 .exact .inl h
 .exact .inr ⟨g,cap,c9,ay,au,(O g (by rw[ay];rfl)).trans aZ,r⟩
theorem Holds.cp (U:cm I w I' w') {F:Nat->Prop} (bh: ∀b,F b->w'.heap[b]? =w.heap[b]?) (aN:w.heap.size<=w'.heap.size) {p:bn}: ∀(ch:ba),(∀c,ch.has c=true->ρ' c=ρ c)->Holds ρ I F w p ch->Holds ρ' I' F w' p ch
 | .cells l,dn,⟨E,aE,T,G,af⟩=>⟨E,aE,T,(bh _ ((E _).2 rfl)).trans G,cc.mono U l aE dn af⟩
 | .row e u xs,_,⟨E,G,cs,af,aW⟩=>⟨E,G,cs,O' af fun b O=>bh b ((E b).2 O),aW.mono U⟩
 | .map aI aK es,_,⟨E,bR,bS,G,af,aW⟩=>⟨E,bR,bS,(bh _ ((E _).2 rfl)).trans G,af.mono U,aW⟩
 | .val u x,_,⟨E,aE,T,G,af,aW⟩=>⟨E,aE,T,(bh _ ((E _).2 rfl)).trans G,af,cu.mono U u x _ _ (fun _ _ h=>h) aW⟩
 | .aG o,_,h=>o.cp _ _ _ _ _ _ h U bh aN
 | .b5 d o,dn,h=>by
  have e:=dn d (by simp[ba.has]);simp only[Holds] at*;rw[e];exact(o (ρ d)).cp _ _ _ _ _ _ h U bh aN
end
end
section
abbrev aY:=List (Nat×aP)
abbrev az:=List (Nat×ba)
def dI:aY->Nat->aP
 | [],_=>.c (.one .any)
 |(t,v)::K,s=>match Nat.beq t s with
  |true=>v
  |false=>dI K s
def ag:az->Nat->Option ba
 | [],_=>none
 |(t,v)::B,s=>match Nat.beq t s with
  |true=>some v
  |false=>ag B s
def gS:az->Nat->az
 | [],_=>[]
 |(t,v)::B,s=>match Nat.beq t s with
  |true=>gS B s
  |false=>(t,v)::gS B s
theorem hA (B:az) (c d:Nat):ag (gS B c) d=if c=d then none else ag B d:=by
 induction B with
 |nil=>simp[gS,ag]
 |cons x B bq=>
  obtain⟨t,v⟩:=x;unfold gS
  by_cases h:Nat.beq t c=true
  .have e:=aq6 h;subst e;rw[h];simp only[bq]
   split
   .rfl
   .rename_i a7;simp only[ag];rw[show Nat.beq t d=false by rw[aw7];intro h;exact a7 (aq6 h)]
  .rw[ay3] at h;rw[h];simp only[ag]
   by_cases G:Nat.beq t d=true
   .have e:=aq6 G;subst e;rw[if_neg (fun e=>by subst e;simp at h)];rw[G]
   .rw[ay3] at G;rw[G];simpa using bq
theorem cd (B:az) (c:Nat) (ch:ba) (d:Nat):ag ((c,ch)::B) d=if c=d then some ch else ag B d:=by
 simp only[ag]
 by_cases h:c=d
 .subst h;simp
 .rw[if_neg h,show Nat.beq c d=false by rw[aw7];intro e;exact h (aq6 e)]
theorem kD (K:aY) (c:Nat) (v:aP) (d:Nat):dI ((c,v)::K) d=if c=d then v else dI K d:=by
 rw[dI.eq_def]
 by_cases h:c=d
 .subst h;simp
 .simp only[if_neg h,show Nat.beq c d=false by rw[aw7];intro e;exact h (aq6 e)]
def Pa (a:Act) (s:Nat) (v:Value):Prop:=a.tmps.getD s undef=v
theorem Pb {a:Act} {d:Nat} {v:Value} (h:d < a.tmps.size):Pa (a.put (some d) v) d v:=by simp[Pa,Act.put,h]
theorem Yl {a:Act} {d s:Nat} {v:Value} (h:d≠s):a.tmps.getD s undef=(a.put (some d) v).tmps.getD s undef:=by
 simp[Act.put,aw1 h]
theorem ki {a:Act} {d:Option Nat} {v:Value}:(a.put d v).tmps.size=a.tmps.size:=by cases d <;>simp[Act.put]
theorem kj {a:Act} {d:Option Nat} {v:Value}:(a.put d v).defers=a.defers:=by cases d <;>simp[Act.put]
structure fg where
 fZ:World
 zb:Nat->Prop
 qd:Nat->Prop
 mC:Nat->bn
 ds:aC4
def xi (D:Nat):Deferred:={target:=.collected D,args:= #[]}
def bX (C:fg) (B:az) (F:Nat->Nat->Prop) (w:World):Nat->Prop:=fun b=>
 b < w.heap.size/\(C.zb b\/C.qd b\/C.fZ.heap.size<=b/\b∉C.ds)/\ ∀c ch,ag B c=some ch-> ¬F c b
structure Mem (ids:aC4) (C:fg) (B:az) (ρ:Nat->bn) (F:Nat->Nat->Prop) (w:World):Prop where
 fr:cS C.qd C.fZ w
 holds: ∀c ch,ag B c=some ch->Holds ρ (bX C B F w) (F c) w (ρ c) ch
 own: ∀c ch,ag B c=some ch-> ∀b,F c b->b < w.heap.size/\(C.qd b\/C.fZ.heap.size<=b/\b∉C.ds)
 fh: ∀c b9 ch ch' b,ag B c=some ch->ag B b9=some ch'->c≠b9->F c b-> ¬F b9 b
 eI: ∀c,c∈ids->ρ c=C.mC c
 k0:C.ds.Nodup/\(∀b,C.zb b\/C.qd b->b < C.fZ.heap.size)/\ ∀D,D∈C.ds->D < w.heap.size/\w.heap[D]? =some (.deferred (some []))/\C.fZ.heap.size<=D
def eq (K:aY) (ρ:Nat->bn) (I:Nat->Prop) (a:Act) (w:World):Prop:= ∀s,cw ρ I w (dI K s) (a.tmps.getD s undef)
def e2 (N:Nat) (ids:aC4) (C:fg) (K:aY) (B:az) (a:Act) (w:World):Prop:=
 a.tmps.size=N/\a.defers=C.ds.map xi/\ ∃ρ F,Mem ids C B ρ F w/\eq K ρ (bX C B F w) a w
theorem Mem.fresh {ids:aC4} {C:fg} {B:az} {ρ:Nat->bn} {F:Nat->Nat->Prop} {w:World} (h:Mem ids C B ρ F w) {b:Nat} (O:w.heap.size<=b):C.fZ.heap.size<=b/\b∉C.ds:=
 ⟨aw2 h.fr.size O,fun H=>by have:=(h.k0.2.2 b H).1;omega⟩
theorem Mem.step {ids:aC4} {C:fg} {B B':az} {ρ ρ':Nat->bn} {F F':Nat->Nat->Prop} {w w':World} (h:Mem ids C B ρ F w) (M Ez:Nat->Prop)
  (cy:cS (fun b=> ∃c ch,ag B c=some ch/\M c/\F c b) w w')
  (q3: ∀c ch,ag B' c=some ch-> ¬M c->ag B c=some ch)
  (dn: ∀c,¬Ez c->ρ' c=ρ c) (bh: ∀c,¬M c->F' c=F c) (IH: ∀c,c∈ids-> ¬Ez c)
  (l6: ∀c,Ez c->M c)
  (named: ∀c ch,ag B c=some ch-> ¬M c-> ∀d,ch.has d=true-> ¬Ez d)
  (new: ∀c ch,ag B' c=some ch->M c->cm (bX C B F w) w (bX C B' F' w') w'->Holds ρ' (bX C B' F' w') (F' c) w' (ρ' c) ch)
  (EA: ∀c ch,ag B' c=some ch->M c-> ∀b,F' c b->b < w'.heap.size/\((∃gT cz,ag B gT=some cz/\M gT/\F gT b)\/w.heap.size<=b))
  (Ym: ∀c b9 ch ch' b,ag B' c=some ch->ag B' b9=some ch'->M c->M b9->c≠b9->F' c b-> ¬F' b9 b):
  Mem ids C B' ρ' F' w'/\cm (bX C B F w) w (bX C B' F' w') w':=by
 have aN:=h.fr.size
 have II:cm (bX C B F w) w (bX C B' F' w') w':=by
  rintro b ⟨E,G,af⟩;refine⟨⟨ar6 E cy.size,G,fun c ch J=>?_⟩,cy.block b E ?_⟩
  .by_cases aj:M c
   .intro O;obtain⟨_,dp⟩:=EA c ch J aj b O;rcases dp with⟨gT,cz,ae,_,ao⟩ |dp
    .exact af gT cz ae ao
    .omega
   .rw[bh c aj];exact af c ch (q3 c ch J aj)
  .rintro⟨c,ch,ae,_,ao⟩;exact af c ch ae ao
 have Yn: ∀c ch,ag B c=some ch-> ¬M c-> ∀b,F c b->w'.heap[b]? =w.heap[b]? :=fun c ch J aj b O=>
  cy.block b (h.own c ch J b O).1 (by
   rintro⟨gT,cz,ae,ao,bm⟩;exact h.fh c gT ch cz b J ae (fun e=>aj (e▸ao)) O bm)
 refine⟨⟨?_,?_,?_,?_,?_,?_⟩,II⟩
 .refine h.fr.trans cy ?_;rintro b O ⟨c,ch,ae,_,ao⟩;rcases(h.own c ch ae b ao).2 with h' |h'
  .exact h'
  .have:=h'.1;omega
 .intro c ch J
  by_cases aj:M c
  .exact new c ch J aj II
  .have ah:=q3 c ch J aj;rw[bh c aj,dn c (fun hn=>aj (l6 c hn))];exact Holds.cp II (Yn c ch ah aj) cy.size ch (fun d H=>dn d (named c ch ah aj d H)) (h.holds c ch ah)
 .intro c ch J b O
  by_cases aj:M c
  .obtain⟨E,G⟩:=EA c ch J aj b O;refine⟨E,?_⟩;rcases G with⟨gT,cz,ae,_,ao⟩ |G
   .exact(h.own gT cz ae b ao).2
   .exact .inr (h.fresh G)
  .rw[bh c aj] at O;obtain⟨E,G⟩:=h.own c ch (q3 c ch J aj) b O;exact⟨ar6 E cy.size,G⟩
 .intro c b9 ch ch' b J cK a7 O dp
  by_cases aj:M c
  .by_cases bI:M b9
   .exact Ym c b9 ch ch' b J cK aj bI a7 O dp
   .rw[bh b9 bI] at dp;have td:=q3 b9 ch' cK bI;rcases(EA c ch J aj b O).2 with⟨gT,cz,ae,bm,ao⟩ |G
    .exact h.fh gT b9 cz ch' b ae td (fun e=>bI (e▸bm)) ao dp
    .have:=(h.own b9 ch' td b dp).1;omega
  .rw[bh c aj] at O;have ah:=q3 c ch J aj
   by_cases bI:M b9
   .rcases(EA b9 ch' cK bI b dp).2 with⟨gT,cz,ae,bm,ao⟩ |G
    .exact h.fh gT c cz ch b ae ah (fun e=>aj (e▸bm)) ao O
    .have:=(h.own c ch ah b O).1;omega
   .rw[bh b9 bI] at dp;exact h.fh c b9 ch ch' b ah (q3 b9 ch' cK bI) a7 O dp
 .intro c J;rw[dn c (IH c J)];exact h.eI c J
 .refine⟨h.k0.1,h.k0.2.1,fun D cf=>?_⟩;obtain⟨g1,g2,cX⟩:=h.k0.2.2 D cf;refine⟨ar6 g1 cy.size,(cy.block D g1 ?_).trans g2,cX⟩;rintro⟨c,ch,ae,_,ao⟩;rcases(h.own c ch ae D ao).2 with h' |h'
  .have:=h.k0.2.1 D (.inr h');omega
  .exact h'.2 cf
theorem Mem.below {ids:aC4} {C:fg} {B:az} {ρ:Nat->bn} {F:Nat->Nat->Prop} {w w':World} (h:Mem ids C B ρ F w) (O:Below w.heap.size w w'):
  Mem ids C B ρ F w'/\cm (bX C B F w) w (bX C B F w') w':=
 h.step (fun _=>False) (fun _=>False) (cS.pq O) (fun _ _ h _=>h) (fun _ _=>rfl) (fun _ _=>rfl) (fun _ _ h=>h) (fun _ h=>h) (fun _ _ _ _ _ _ h=>h) (fun _ _ _ h=>h.elim) (fun _ _ _ h=>h.elim) (fun _ _ _ _ _ _ _ h=>h.elim)
theorem eq.mono {K:aY} {ρ ρ':Nat->bn} {I I':Nat->Prop} {a:Act} {w w':World} (h:eq K ρ I a w) (U:cm I w I' w') (dn: ∀s c,(dI K s).has c=true->ρ' c=ρ c):eq K ρ' I' a w':=
 fun s=>cw.mono U _ _ (dn s) (h s)
theorem eq.put {K:aY} {ρ:Nat->bn} {I:Nat->Prop} {a:Act} {w:World} (h:eq K ρ I a w) {d:Nat} {v:aP} {x:Value} (H:d < a.tmps.size) (ay:cw ρ I w v x):eq ((d,v)::K) ρ I (a.put (some d) x) w:=fun s=>by
 rw[kD]
 by_cases e:d=s
 .subst e;rw[if_pos rfl,show(a.put (some d) x).tmps.getD d undef=x from Pb H];exact ay
 .rw[if_neg e,<-Yl e];exact h s
def mD (d:Option Nat) (v:aP) (K:aY):aY:=match d with
 |some d=>(d,v)::K
 |none=>K
theorem eq.kk {K:aY} {ρ:Nat->bn} {I:Nat->Prop} {a:Act} {w:World} (h:eq K ρ I a w) {d:Option Nat} {v:aP} {x:Value} (H: ∀e,d=some e->e < a.tmps.size) (ay:cw ρ I w v x):eq (mD d v K) ρ I (a.put d x) w:=by
 cases d with
 |none=>exact h
 |some d=>exact h.put (H d rfl) ay
def vP:Value->bB
 | .int k n=>.d (.int k n)
 | .bool b=>.d (.lit b)
 | .string s=>.d (.str s.data.toList)
 | .slice none 0 0=>.dK
 |v=>.bJ v
theorem Pc (ρ:Nat->bn) (I:Nat->Prop) (w:World) (v:Value):dY ρ I w (vP v) v:=by
 unfold vP
 split <;>simp[dY,gK]
def EB:Value->aP
 | .agg cs=>.c (.agg (cs.toList.map vP))
 |v=>.c (.one (vP v))
theorem Pd (ρ:Nat->bn) (I:Nat->Prop) (w:World): ∀aE:List Value,cc ρ I w (aE.map vP) aE
 | []=>rfl
 |v::aE=>⟨v,aE,rfl,Pc ρ I w v,Pd ρ I w aE⟩
theorem Yo (ρ:Nat->bn) (I:Nat->Prop) (w:World) (v:Value):cw ρ I w (EB v) v:=by
 unfold EB
 split
 .rename_i cs;exact⟨cs.toList,ay6,Pd ρ I w _⟩
 .exact Pc ρ I w v
def a2 (K:aY):Operand->aP
 | .tmp t=>dI K t
 | .const v=>EB v
 | .func f=>.c (.one (.cY f []))
 | .global g=>.c (.one (.bJ (.pointer (some ⟨g,0,none⟩))))
theorem eq.get {K:aY} {ρ:Nat->bn} {I:Nat->Prop} {a:Act} {w:World} (h:eq K ρ I a w) (x:Operand):cw ρ I w (a2 K x) (a.eval x):=by
 cases x with
 |tmp t=>exact h t
 |const v=>exact Yo ρ I w v
 |func f=>exact⟨[],rfl,rfl⟩
 |global g=>rfl
end
section
def zc (a b:Int):Bool:=decide (a=b)
def zd (a b:aC3):Bool:=decide (a=b)
def f0:(u:bz)->Z u->Z u->Bool
 | .int _,a,b=>zc a b
 | .str,a,b=>zd a b
 |_,_,_=>false
def bY {aI aK:bz}:List (Z aI×Z aK)->Z aI->Option (Z aK)
 | [],_=>none
 |p::l,k=>match f0 aI k p.1 with
  |true=>some p.2
  |false=>bY l k
def dx {aI aK:bz}:List (Z aI×Z aK)->Z aI->Z aK->List (Z aI×Z aK)
 | [],k,x=>[(k,x)]
 |p::l,k,x=>match f0 aI k p.1 with
  |true=>(k,x)::l
  |false=>p::dx l k x
def gM {aI aK:bz}:List (Z aI×Z aK)->Z aI->List (Z aI×Z aK)
 | [],_=>[]
 |p::l,k=>match f0 aI k p.1 with
  |true=>l
  |false=>p::gM l k
def m':bz->TypeDesc->Bool
 | .int k,.int dZ=>k == dZ
 | .str,.string=>true
 |_,_=>false
section
variable {P:Program} {I:Nat->Prop} {w:World} {aI aK:bz}
theorem sc {d:TypeDesc} (H:m' aI d=true) (a:Z aI):MapKept.IsKey d (gL aI a):=by
 cases aI <;>cases d <;>simp[m'] at H
 .subst H;simp[gL,MapKept.IsKey]
 .simp[gL,MapKept.IsKey]
theorem IJ {d:TypeDesc} (H:m' aI d=true) (a b:Z aI):gL aI a=gL aI b↔f0 aI a b=true:=by
 cases aI <;>cases d <;>simp[m'] at H
 .have: ∀(k:IntKind) (a b:Int),Value.int k a=Value.int k b↔zc a b=true:=fun k a b=>by simp[zc]
  exact this _ a b
 .have: ∀(a b:aC3),Value.string ⟨List.toArray a⟩=Value.string ⟨List.toArray b⟩↔zd a b=true:=fun a b=>by simp[zd]
  exact this a b
theorem BB: ∀{l:List (Z aI×Z aK)} {es:List MapEntry},ir I w aI aK l es->es.length=l.length
 | [],_,h=>by rw[show _=[] from h];rfl
 |p::l,_,⟨e,r,h,_,_,af⟩=>by rw[h,at8,at8,BB af]
theorem BC {d:TypeDesc} (H:m' aI d=true) (k:Z aI): ∀(l:List (Z aI×Z aK)) (es:List MapEntry) (i:Nat),ir I w aI aK l es->
  (Instr.findNow d (gL aI k) es i=some none/\bY l k=none/\(∀x,dx l k x=l++[(k,x)])/\gM l k=l)\/
  ∃(j:Nat) (x:Z aK) (e:MapEntry),Instr.findNow d (gL aI k) es i=some (some (i+j,e.val))/\bY l k=some x/\es[j]? =some e/\e.key=gL aI k/\jz I w aK x e.val/\(∀y,dx l k y=l.set j (k,y))/\gM l k=l.eraseIdx j
 | [],_,i,h=>by
  rw[show _=[] from h];exact .inl ⟨rfl,rfl,fun _=>rfl,rfl⟩
 |p::l,_,i,⟨e,r,h,E,G,af⟩=>by
  subst h;obtain⟨b,O,q4⟩:=MapKept.sameNow_of_keys (sc H k) (sc H p.1);rw[<-E] at O
  cases aa:f0 aI k p.1 with
  |true=>
   have kE:b=true:=q4.2 ((IJ H k p.1).2 aa);subst kE;refine .inr ⟨0,p.2,e,by simp[Instr.findNow,O],by simp[bY,aa],rfl,by rw[E];exact((IJ H k p.1).2 aa).symm,G,fun y=>by simp[dx,aa],by simp[gM,aa]⟩
  |false=>
   have Yp:b=false:=by
    cases b with
    |false=>rfl
    |true=>have:=(IJ H k p.1).1 (q4.1 rfl);rw[aa] at this;cases this
   subst Yp;rcases BC H k l r (i+1) af with⟨bZ,cg,a3,a4⟩ |⟨j,x,b7,bZ,cg,a3,a4,a5,gB,ze⟩
   .exact .inl ⟨by simp[Instr.findNow,O,bZ],by simp[bY,aa,cg],fun y=>by simp[dx,aa,a3],by simp[gM,aa,a4]⟩
   .exact .inr ⟨j+1,x,b7,by simp[Instr.findNow,O,bZ];omega,by simp[bY,aa,cg],by simpa using a3,a4,a5,fun y=>by simp[dx,aa,gB],by simp[gM,aa,ze]⟩
theorem Pe {t kt et:TypeId} {d:TypeDesc} (cq:P.underlying t=some (.map kt et)) (aa:P.underlying kt=some d) (H:m' aI d=true) {b:Nat} {bR:List MapEntry} {bS:Nat} (O:w.heap[b]? =some (.map (List.toArray bR) bS))
  {l:List (Z aI×Z aK)} (aA:ir I w aI aK l bR) {aB:Value} (aN:(zeroValue et).run P w= .ok aB w) (zf:jz I w aK (cO aK) aB) (k:Z aI) (c:Bool):
  ∃v,(Instr.lookup t (.map (some b)) (gL aI k) c).run P w= .ok (if c then .tuple #[v,.bool (bY l k).isSome] else v) w/\jz I w aK ((bY l k).getD (cO aK)) v:=by
 have J:=fun e=>MapKept.run_checkKey (P:=P) (w:=w) aa (sc H k) e 9999
 rcases BC (I:=I) (w:=w) H k l bR 0 aA with⟨bZ,cg,_⟩ |⟨j,x,e,bZ,cg,_,_,a5,_⟩
 .refine⟨aB,?_,by rw[cg];exact zf⟩;have hf:=MapKept.run_findKey (P:=P) (w:=w) aa bZ;rw[cg];simp[Instr.lookup,run_underlying cq,MapKept.run_getObj_map O,J,hf,aN,Result.andThen]
 .refine⟨e.val,?_,by rw[cg];exact a5⟩;have hf:=MapKept.run_findKey (P:=P) (w:=w) aa bZ;rw[cg];simp[Instr.lookup,run_underlying cq,MapKept.run_getObj_map O,J,hf,Result.andThen]
theorem Pf: ∀{l:List (Z aI×Z aK)} {es:List MapEntry},ir I w aI aK l es-> ∀{k:Z aI} {x:Z aK} {e:MapEntry},e.key=gL aI k->jz I w aK x e.val->ir I w aI aK (l++[(k,x)]) (es++[e])
 | [],_,h,k,x,e,E,G=>by rw[show _=[] from h];exact⟨e,[],rfl,E,G,rfl⟩
 |p::l,_,⟨b7,r,h,bZ,cg,a3⟩,k,x,e,E,G=>by rw[h];exact⟨b7,r++[e],rfl,bZ,cg,Pf a3 E G⟩
theorem Pg: ∀{l:List (Z aI×Z aK)} {es:List MapEntry},ir I w aI aK l es-> ∀{k:Z aI} {x:Z aK} {e:MapEntry} (j:Nat),e.key=gL aI k->jz I w aK x e.val->ir I w aI aK (l.set j (k,x)) (es.set j e)
 | [],_,h,k,x,e,j,E,G=>by rw[show _=[] from h];rfl
 |p::l,_,⟨b7,r,h,bZ,cg,a3⟩,k,x,e,0,E,G=>by rw[h];exact⟨e,r,rfl,E,G,a3⟩
 |p::l,_,⟨b7,r,h,bZ,cg,a3⟩,k,x,e,j+1,E,G=>by rw[h];exact⟨b7,r.set j e,rfl,bZ,cg,Pg a3 j E G⟩
theorem Ph: ∀{l:List (Z aI×Z aK)} {es:List MapEntry},ir I w aI aK l es-> ∀(j:Nat),ir I w aI aK (l.eraseIdx j) (es.eraseIdx j)
 | [],_,h,j=>by rw[show _=[] from h];rfl
 |p::l,_,⟨b7,r,h,bZ,cg,a3⟩,0=>by rw[h];exact a3
 |p::l,_,⟨b7,r,h,bZ,cg,a3⟩,j+1=>by rw[h];exact⟨b7,r.eraseIdx j,rfl,bZ,cg,Ph a3 j⟩
theorem Pi {es:List MapEntry} {c:Nat} (h:l4 es c) (key val:Value):l4 (es++[⟨key,val,c⟩]) (c+1):=by
 refine⟨?_,fun e U=>?_⟩
 .rw[au0,List.pairwise_append];refine⟨h.1,ay6,fun a ha b O=>?_⟩;obtain⟨e,U,rfl⟩:=as9.1 ha;simp only[ar4,ax6,ar5] at O;subst O;exact h.2 e U
 .rcases as1.1 U with U |U
  .have:=h.2 e U;omega
  .simp only[ar5] at U;subst U;simp
theorem Yq {es:List MapEntry} {c:Nat} (h:l4 es c) {j:Nat} {bF e:MapEntry} (V:es[j]? =some bF) (O:e.born=bF.born):l4 (es.set j e) c:=by
 have aA:(es.set j e).map (·.born)=es.map (·.born):=by
  rw[List.map_set];refine List.ext_getElem? fun i=>?_
  rw[aw6]
  split
  .rename_i aF;subst aF;have:=(aq7.1 V).1;rw[if_pos (by simpa using this),as0,V,O];rfl
  .rfl
 refine⟨by rw[aA];exact h.1,fun x hx=>?_⟩;have E:x.born∈(es.set j e).map (·.born):=ar8 hx;rw[aA] at E;obtain⟨y,aD,Yr⟩:=as9.1 E;rw[<-Yr];exact h.2 y aD
theorem Ys {es:List MapEntry} {c:Nat} (h:l4 es c) (j:Nat):l4 (es.eraseIdx j) c:=
 ⟨h.1.sublist ((List.eraseIdx_sublist es j).map _),fun e U=>h.2 e ((List.eraseIdx_sublist es j).subset U)⟩
theorem Yt (a:Z aI) {d:TypeDesc} (H:m' aI d=true) (n:Nat):Instr.sameBits (n+1) (gL aI a) (gL aI a)=true:=by
 cases aI <;>cases d <;>simp[m'] at H
 .have: ∀(k:IntKind) (a:Int),Instr.sameBits (n+1) (.int k a) (.int k a)=true:=fun k a=>by simp[Instr.sameBits]
  exact this _ a
 .simp only[gL,Instr.sameBits];exact(MapKept.bytes_beq _ _).2 rfl
theorem BD {t kt et:TypeId} {d:TypeDesc} (cq:P.underlying t=some (.map kt et)) (aa:P.underlying kt=some d) (H:m' aI d=true) {b:Nat} {bR:List MapEntry} {bS:Nat} (O:w.heap[b]? =some (.map (List.toArray bR) bS))
  {l:List (Z aI×Z aK)} (aA:ir I w aI aK l bR) (c5:l4 bR bS) (k:Z aI) {x:Z aK} {v:Value} (ay:jz I w aK x v):
  ∃eB jX,(Instr.mapUpdate t (.map (some b)) (gL aI k) v).run P w= .ok () {w with heap:=w.heap.setIfInBounds b (.map (List.toArray eB) jX)}/\ir I w aI aK (dx l k x) eB/\l4 eB jX:=by
 have J:=fun e=>MapKept.run_checkKey (P:=P) (w:=w) aa (sc H k) e 9999
 have en:=fun o=>MapKept.run_setObj_map (P:=P) o O
 rcases BC (I:=I) (w:=w) H k l bR 0 aA with⟨bZ,cg,a3,_⟩ |⟨j,y,e,bZ,cg,a3,a4,a5,gB,_⟩
 .have hf:=MapKept.run_findKey (P:=P) (w:=w) aa bZ;refine⟨bR++[⟨gL aI k,v,bS⟩],bS+1,?_,by rw[a3];exact Pf aA rfl ay,Pi c5 _ _⟩;simp[Instr.mapUpdate,run_underlying cq,MapKept.run_getObj_map O,J,hf,en,Result.andThen]
 .have hf:=MapKept.run_findKey (P:=P) (w:=w) aa bZ;have sb:=(aq7.1 a3).1;refine⟨bR.set j ⟨gL aI k,v,e.born⟩,bS,?_,by rw[gB];exact Pg aA j rfl ay,Yq c5 a3 rfl⟩
  have Pj:bR.modify j (fun b7=>{b7 with key:=gL aI k,val:=v})=bR.set j ⟨gL aI k,v,e.born⟩:=by
   refine List.ext_getElem? fun i=>?_
   rw[List.getElem?_modify,aw6]
   by_cases gN:j=i
   .subst gN;have U:=(aq7.1 a3).2;simp[sb,U]
   .simp[gN]
  simp[Instr.mapUpdate,run_underlying cq,MapKept.run_getObj_map O,J,hf,en,Result.andThen,a3,a4,Instr.keyThatStays,Yt k H,Pj]
theorem Pk {t kt et ty:TypeId} {d:TypeDesc} (cq:P.underlying t=some (.map kt et)) (aa:P.underlying kt=some d) (H:m' aI d=true) {b:Nat} {bR:List MapEntry} {bS:Nat} (O:w.heap[b]? =some (.map (List.toArray bR) bS))
  {l:List (Z aI×Z aK)} (aA:ir I w aI aK l bR) (c5:l4 bR bS) (k:Z aI) (Yu:TypeId):
  ∃eB,(Builtin.delete_ #[t,Yu] ty #[.map (some b),gL aI k]).run P w= .ok (.tuple #[]) {w with heap:=w.heap.setIfInBounds b (.map (List.toArray eB) bS)}/\ir I w aI aK (gM l k) eB/\l4 eB bS:=by
 have J:=fun e=>MapKept.run_checkKey (P:=P) (w:=w) aa (sc H k) e 9999
 have en:=fun o=>MapKept.run_setObj_map (P:=P) o O
 rcases BC (I:=I) (w:=w) H k l bR 0 aA with⟨bZ,cg,_,a3⟩ |⟨j,y,e,bZ,cg,a3,a4,a5,_,gB⟩
 .have hf:=MapKept.run_findKey (P:=P) (w:=w) aa bZ;refine⟨bR,?_,by rw[a3];exact aA,c5⟩;simp[Builtin.delete_,run_underlying cq,MapKept.run_getObj_map O,J,hf,en,Result.andThen]
 .have hf:=MapKept.run_findKey (P:=P) (w:=w) aa bZ;have sb:=(aq7.1 a3).1;refine⟨bR.eraseIdx j,?_,by rw[gB];exact Ph aA j,Ys c5 j⟩
  have Yv:(List.toArray bR).eraseIdxIfInBounds j=List.toArray (bR.eraseIdx j):=by
   apply Array.ext';unfold Array.eraseIdxIfInBounds;rw[dif_pos (by simpa using sb)];simp
  simp[Builtin.delete_,run_underlying cq,MapKept.run_getObj_map O,J,hf,en,Result.andThen,Yv]
theorem Yw {t:TypeId}:(Instr.makeMap t none).run P w= .ok (.map (some w.heap.size)) (w.alloc (.map #[] 0)):=by
 simp only[Instr.makeMap,Sem.run_bind,run_newObj_alloc,Result.andThen,Sem.run_pure]
end
end
end Go.Proofs.YtkfbeijmgggkmaaGreat
