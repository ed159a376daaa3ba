/-
A part of the proof of this claim: lemmas, with no condition beyond what each says.
-/
import Derived.WalkKit
import Derived.WalkSpells
import Derived.WalkLawsBesides
import Derived.BigQuiet
import Derived.Deep.QuietTactic
import Derived.Deep.RegionHeld3
import Derived.Deep.AppendLies
import Derived.Deep.DrawnRows
import Derived.Maps.AppendAt
import Derived.Laws.CopyOwn
import Derived.Lib.ConvBytes
import Derived.Lib.Hide
import Derived.RangeFuncRecord
import Derived.OrdersIn
import Derived.TacticsIn
import Derived.Sort.LoopGhostIn
import Derived.MapKept
import Derived.ChangeMaps4
set_option linter.unusedVariables false
set_option linter.unusedSimpArgs false
set_option maxRecDepth 10000
namespace Go.Proofs.YthnboghbhgapcaaGreat
abbrev gd:=@of_decide_eq_true
abbrev mu:=@of_decide_eq_false
abbrev oj:=@List.getElem?_eq_getElem
abbrev vj:=@Bool.and_eq_true
abbrev ap0:=@Nat.le_refl
abbrev ap1:=@List.length_append
abbrev ap2:=@List.mem_cons_of_mem
abbrev ap3:=@List.mem_cons
abbrev ap4:=@Option.some.injEq
abbrev ap5:=@List.getElem?_eq_some_iff
abbrev ap6:=@Nat.eq_of_beq_eq_true
abbrev ap7:=@Nat.zero_le
abbrev ap8:=@List.length_take
abbrev ap9:=@List.getD_eq_getElem?_getD
abbrev aq0:=@List.mem_singleton
abbrev aq1:=@List.mem_cons_self
abbrev aq2:=@decide_eq_true
abbrev aq3:=@List.length_map
abbrev aq4:=@List.map_cons
abbrev aq5:=@List.getElem?_cons_zero
abbrev aq6:=@List.mem_map_of_mem
abbrev aq7:=@List.nodup_cons
abbrev aq8:=@List.mem_append
abbrev aq9:=@List.take_length
abbrev ar0:=@List.getElem?_map
abbrev ar1:=@List.map_congr_left
abbrev ar2:=@List.mem_map
abbrev ar3:=@List.getElem_mem
abbrev ar4:=@List.all_eq_true
abbrev ar5:=@decide_eq_true_eq
abbrev ar6:=@List.contains_iff_mem
abbrev ar7:=@List.getElem?_append_left
abbrev ar8:=@decide_eq_false
abbrev ar9:=@List.getElem?_append_right
abbrev as0:=@Option.map_eq_some_iff
abbrev as1:=@List.take_succ_eq_append_getElem
abbrev as2:=@List.map_map
abbrev as3:=@List.map_append
abbrev as4:=@List.length_cons
abbrev as5:=@List.append_nil
abbrev as6:=@List.append_assoc
abbrev as7:=@List.length_replicate
abbrev as8:=@Option.isSome_iff_exists
abbrev as9:=@Nat.le_trans
abbrev at0:=@List.nodup_nil
abbrev at1:=@List.length_drop
abbrev at2:=@Option.map_some
abbrev at3:=@Prod.mk.injEq
abbrev at4:=@Bool.eq_false_iff
abbrev at5:=@List.mem_filter
abbrev at6:=@List.getElem?_eq_none
abbrev at7:=@List.flatMap_cons
abbrev at8:=@List.mem_of_find?_eq_some
abbrev at9:=@List.foldl_append
abbrev au0:=@List.map_nil
abbrev au1:=@Option.isNone_iff_eq_none
abbrev au2:=@List.getElem?_cons_succ
abbrev au3:=@Nat.not_lt_zero
abbrev au4:=@Int.ediv_nonneg
theorem au5 {p:Prop} (h:p:=by omega):p:=h
theorem au6 {p:Prop} (h:p:=by decide):p:=h
theorem au7 {p:Prop} (h:p:=by simp):p:=h
theorem au8 {p:Prop} (h:p:=by kernel_rfl):p:=h
theorem au9 {p:Prop} (h:p:=by rfl):p:=h
theorem av1 {p:Prop} (h:p:=by assumption):p:=h
end Go.Proofs.YthnboghbhgapcaaGreat
namespace Go.Proofs.YthnboghbhgapcaaGreat
open Go.RowKit Go.Proofs
section
structure cJ (S:Nat->Prop) (w w':World):Prop where
 os:w'.os=w.os
 tape:w'.tape=w.tape
 output:w'.output=w.output
 size:w.heap.size<=w'.heap.size
 block: ∀k,k < w.heap.size-> ¬S k->w'.heap[k]? =w.heap[k]?
theorem cJ.refl (S:Nat->Prop) (w:World):cJ S w w:=⟨rfl,rfl,rfl,ap0 _,fun _ _ _=>rfl⟩
theorem cJ.trans {S:Nat->Prop} {a b c:World} (h:cJ S a b) {S':Nat->Prop} (k:cJ S' b c) (ax: ∀i,i < a.heap.size->S' i->S i):cJ S a c:=
 ⟨k.os.trans h.os,k.tape.trans h.tape,k.output.trans h.output,as9 h.size k.size,
  fun i aI hn=>(k.block i (Nat.lt_of_lt_of_le aI h.size) (fun x=>hn (ax i aI x))).trans (h.block i aI hn)⟩
theorem cJ.mono {S S':Nat->Prop} {w w':World} (h:cJ S w w') (ax: ∀i,i < w.heap.size->S i->S' i):cJ S' w w':=
 ⟨h.os,h.tape,h.output,h.size,fun i aI hn=>h.block i aI (fun x=>hn (ax i aI x))⟩
theorem cJ.mn {S:Nat->Prop} {w w':World} (h:Below w.heap.size w w'):cJ S w w':=
 ⟨h.os,h.tape,h.output,h.size,fun i aI _=>h.block i aI⟩
theorem cJ.below {S:Nat->Prop} {B:Nat} {w w':World} (h:cJ S w w') (c':B<=w.heap.size) (ax: ∀i,i < B-> ¬S i):Below B w w':=
 ⟨h.os,h.tape,h.output,h.size,fun i aI=>h.block i au5 (ax i aI)⟩
theorem cJ.cell {S:Nat->Prop} {w w':World} (h:cJ S w w') {p:Addr} {v:Value} (ag:w.cell? p=some v) (ax: ¬S p.block):w'.cell? p=some v:=
 (World.cell?_of_block (h.block p.block (World.block_lt_of_cell? w p ag) ax)).trans ag
theorem k0 {w:World} {b:Nat} {o:Obj} (h:w.heap[b]? =some o):b < w.heap.size:=by
 rcases Nat.lt_or_ge b w.heap.size with bw |vp
 .exact bw
 .rw[Array.getElem?_eq_none vp] at h;cases h
def eL (D:Nat->Prop) (w:World) (size:Nat) (v:Value) (n:Nat) (xs:List Value):Prop:=
 xs.length=n*size/\ ∃A c,v= .slice A n c/\n<=c/\c<=maxLen/\
  (0 < n-> ∃b o,A=some ⟨b,o,none⟩/\D b/\b < w.heap.size/\ ∀j u,xs[j]? =some u->w.cell? ⟨b,o+j,none⟩=some u)
def kD (D:Nat->Prop) (w w':World):Prop:= ∀i,i < w.heap.size->D i->w'.heap[i]? =w.heap[i]?
theorem kD.refl (D:Nat->Prop) (w:World):kD D w w:=fun _ _ _=>rfl
theorem kD.cell {D:Nat->Prop} {w w':World} (h:kD D w w') {p:Addr} {v:Value} (ag:w.cell? p=some v) (ax:D p.block):w'.cell? p=some v:=
 (World.cell?_of_block (h p.block (World.block_lt_of_cell? w p ag) ax)).trans ag
theorem kD.mn {D:Nat->Prop} {w w':World} (h:Below w.heap.size w w'):kD D w w':=fun i aI _=>h.block i aI
theorem eL.mono {D jW:Nat->Prop} {w w':World} {size n:Nat} {v:Value} {xs:List Value} (h:eL D w size v n xs) (ab:kD D w w') (hw:w.heap.size<=w'.heap.size) (J: ∀i,i < w.heap.size->D i->jW i):eL jW w' size v n xs:=by
 obtain⟨aq,A,c,rfl,E,G,al⟩:=h;refine⟨aq,A,c,rfl,E,G,fun hn=>?_⟩;obtain⟨b,o,rfl,b9,O,H⟩:=al hn;exact⟨b,o,rfl,J b O b9,au5,fun j u aa=>ab.cell (H j u aa) b9⟩
theorem eL.nil (D:Nat->Prop) (w:World) (size:Nat):eL D w size (.slice none 0 0) 0 []:=⟨au7,none,0,rfl,ap0 _,au6,fun h=>absurd h au5⟩
theorem eL.at_ {D:Nat->Prop} {w:World} {size n:Nat} {v:Value} {xs:List Value} (h:eL D w size v n xs) (hn:0 < n):
  ∃b o c,v= .slice (some ⟨b,o,none⟩) n c/\n<=c/\c<=maxLen/\D b/\b < w.heap.size/\ ∀j u,xs[j]? =some u->w.cell? ⟨b,o+j,none⟩=some u:=by
 obtain⟨aq,A,c,rfl,E,G,al⟩:=h;obtain⟨b,o,rfl,b9,O,H⟩:=al hn;exact⟨b,o,c,rfl,E,G,b9,O,H⟩
def hY (c:UInt8):Value:=.int .u8 c.toNat
def kE (D:Nat->Prop) (w:World) (v:Value) (l:List UInt8):Prop:=eL D w 1 v l.length (l.map hY)
theorem kE.mono {D jW:Nat->Prop} {w w':World} {v:Value} {l:List UInt8} (h:kE D w v l) (ab:kD D w w') (hw:w.heap.size<=w'.heap.size) (J: ∀i,i < w.heap.size->D i->jW i):kE jW w' v l:=eL.mono h ab hw J
def iQ {α:Type} (R:World->α->List Value->Prop) (w:World):List α->List Value->Prop
 | [],xs=>xs=[]
 |a::l,xs=> ∃c r,xs=c++r/\R w a c/\iQ R w l r
theorem iQ.mono {α:Type} {R R':World->α->List Value->Prop} {w w':World} (h: ∀a c,R w a c->R' w' a c): ∀(l:List α) (xs:List Value),iQ R w l xs->iQ R' w' l xs
 | [],_,hx=>hx
 |_::l,_,⟨c,r,hx,H,aF⟩=>⟨c,r,hx,h _ _ H,iQ.mono h l r aF⟩
theorem iQ.qN {α:Type} {R:World->α->List Value->Prop} {w:World} {a:α} {c:List Value} (H:R w a c): ∀(l:List α) (xs:List Value),iQ R w l xs->iQ R w (l++[a]) (xs++c)
 | [],xs,hx=>⟨c,[],by cases hx;simp,H,rfl⟩
 |_::l,_,⟨bX,r,hx,cF,aF⟩=>⟨bX,r++c,by rw[hx,as6],cF,iQ.qN H l r aF⟩
theorem iQ.get {α:Type} {R:World->α->List Value->Prop} {w:World} {s:Nat} (ax: ∀a c,R w a c->c.length=s): ∀(l:List α) (xs:List Value),iQ R w l xs-> ∀(k:Nat) (ab:k < l.length),
  ∃c,R w l[k] c/\ ∀j,j < s->xs[k*s+j]? =c[j]?
 |a::l,_,⟨c,r,hx,H,aF⟩,0,_=>⟨c,H,fun j aa=>by rw[hx,Nat.zero_mul,Nat.zero_add,ar7 (by rw[ax _ _ H];exact aa)]⟩
 |a::l,_,⟨c,r,hx,H,aF⟩,k+1,ab=>by
  obtain⟨bX,cF,aa⟩:=iQ.get ax l r aF k (by simpa using ab);refine⟨bX,cF,fun j h=>?_⟩;have:=ax _ _ H;rw[hx,ar9 (by rw[this,Nat.add_mul];omega),<-aa j h]
  congr 1
  rw[this,Nat.add_mul];omega
theorem iQ.length {α:Type} {R:World->α->List Value->Prop} {w:World} {s:Nat} (ax: ∀a c,R w a c->c.length=s): ∀(l:List α) (xs:List Value),iQ R w l xs->xs.length=l.length*s
 | [],xs,hx=>by cases hx;simp
 |a::l,_,⟨c,r,hx,H,aF⟩=>by rw[hx,ap1,ax _ _ H,iQ.length ax l r aF,as4,Nat.add_mul];omega
structure lW where
 C:Int
 B:List UInt8
structure HZ where
 name:ByteArray
 Xc:ByteArray
 bits:Int
 size:Int
 N1:List lW
def sS (D:Nat->Prop) (w:World) (p:lW) (c:List Value):Prop:= ∃bv,c=[.int .i64 p.C,bv]/\kE D w bv p.B
def pg (D:Nat->Prop) (w:World) (v:Value) (l:List lW):Prop:= ∃xs,eL D w 2 v l.length xs/\iQ (sS D) w l xs
def AR (D:Nat->Prop) (w:World) (b:HZ) (c:List Value):Prop:=
 ∃pv,c=[.string b.name,.string b.Xc,.int .i64 b.bits,.int .i64 b.size,pv]/\pg D w pv b.N1
theorem sS.mono {D jW:Nat->Prop} {w w':World} (ab:kD D w w') (hw:w.heap.size<=w'.heap.size) (J: ∀i,i < w.heap.size->D i->jW i) (p:lW) (c:List Value) (h:sS D w p c):sS jW w' p c:=by
 obtain⟨bv,H,O⟩:=h;exact⟨bv,H,O.mono ab hw J⟩
theorem pg.mono {D jW:Nat->Prop} {w w':World} {v:Value} {l:List lW} (h:pg D w v l) (ab:kD D w w') (hw:w.heap.size<=w'.heap.size) (J: ∀i,i < w.heap.size->D i->jW i):pg jW w' v l:=by
 obtain⟨xs,E,G⟩:=h;exact⟨xs,E.mono ab hw J,iQ.mono (sS.mono ab hw J) l xs G⟩
theorem AR.mono {D jW:Nat->Prop} {w w':World} (ab:kD D w w') (hw:w.heap.size<=w'.heap.size) (J: ∀i,i < w.heap.size->D i->jW i) (b:HZ) (c:List Value) (h:AR D w b c):AR jW w' b c:=by
 obtain⟨pv,H,ag⟩:=h;exact⟨pv,H,ag.mono ab hw J⟩
theorem sS.len {D:Nat->Prop} {w:World} (p:lW) (c:List Value) (h:sS D w p c):c.length=2:=by obtain⟨bv,rfl,_⟩:=h;rfl
theorem AR.len {D:Nat->Prop} {w:World} (b:HZ) (c:List Value) (h:AR D w b c):c.length=5:=by obtain⟨pv,rfl,_⟩:=h;rfl
theorem pg.at_ {D:Nat->Prop} {w:World} {A:Option Addr} {n c:Nat} {l:List lW} (h:pg D w (.slice A n c) l) {k:Nat} (ab:k < n):
  n=l.length/\ ∃b o bv,∃AS:k < l.length,A=some ⟨b,o,none⟩/\D b/\b < w.heap.size/\w.cell? ⟨b,o+k*2,none⟩=some (.int .i64 (l[k]'AS).C)/\w.cell? ⟨b,o+k*2+1,none⟩=some bv/\kE D w bv (l[k]'AS).B:=by
 obtain⟨xs,⟨aq,A',bX,V,_,_,al⟩,aF⟩:=h;injection V with aj ap bm
 subst aj ap bm;obtain⟨b,o,rfl,b9,O,H⟩:=al au5;obtain⟨cs,⟨bv,rfl,c'⟩,aa⟩:=iQ.get sS.len l xs aF k ab;refine⟨rfl,b,o,bv,ab,rfl,b9,O,?_,?_,c'⟩
 .exact H (k*2) _ (by simpa using aa 0 au5)
 .have:=H (k*2+1) _ (by simpa using aa 1 au5);simpa[Nat.add_assoc] using this
theorem pg.form {D:Nat->Prop} {w:World} {v:Value} {l:List lW} (h:pg D w v l): ∃A c,v= .slice A l.length c/\l.length<=c/\c<=maxLen:=by
 obtain⟨xs,⟨_,A,c,rfl,E,G,_⟩,_⟩:=h;exact⟨A,c,rfl,E,G⟩
theorem kE.form {D:Nat->Prop} {w:World} {v:Value} {l:List UInt8} (h:kE D w v l): ∃A c,v= .slice A l.length c/\l.length<=c/\c<=maxLen:=by
 obtain⟨_,A,c,rfl,E,G,_⟩:=h;exact⟨A,c,rfl,E,G⟩
theorem pX (b o j:Nat):(⟨b,o,none⟩:Addr).add j=⟨b,o+j,none⟩:=by
 unfold Addr.add
 split
 .rename_i h;subst h;rfl
 .rfl
theorem Xd {P:Program} (w:World) (base:Nat) (t ty e:TypeId) (i:TypeInfo) (size:Nat) (cr:P.underlying t=some (.slice e)) (aI:P.info? e=some i)
  (v:Value) (n:Nat) (xs:List Value) (du:w.ownsRow base e size v n xs) (c:Nat):(Builtin.append_ #[t,t] ty #[v,.slice none 0 c]).run P w= .ok v w:=by
 rcases du.2 with⟨rfl,rfl⟩ |⟨g,cap,c8,rfl,_,_,DR,_⟩
 .simp[Builtin.append_,run_underlying cr,sizeOf,typeInfo,aI,Builtin.lenOf,Builtin.firstCells]
 .simp[Builtin.append_,run_underlying cr,sizeOf,typeInfo,aI,Builtin.lenOf,Builtin.firstCells,DR,storeCells]
theorem H0 {P:Program} (w:World) (base:Nat) (t ty e:TypeId) (i:TypeInfo) (aB:Value) (size bytes:Nat) (cr:P.underlying t=some (.slice e)) (aI:P.info? e=some i) (aR:i.zero=some aB)
  (yG:i.size=size) (tQ:i.bytes=bytes) (nz:aB.cells.size=size) (cQ:0 < size)
  (v:Value) (n:Nat) (xs:List Value) (du:w.ownsRow base e size v n xs)
  (D:Nat->Prop) (hZ:Value) (m:Nat) (eS:List Value) (aF:eL D w size hZ m eS) (E: ∀u∈eS,u.oneCell'=true)
  (AT:n+m<=maxLen) (AU:(n+m)*bytes<=140737488355328) (AV:base<=w.heap.size):
  ∃cU w',(Builtin.append_ #[t,t] ty #[v,hZ]).run P w= .ok cU w'/\w'.ownsRow base e size cU (n+m) (xs++eS)/\w.grownBy w' v.ownBlock/\
   (cU.ownBlock=v.ownBlock\/cU.ownBlock=some w.heap.size):=by
 obtain⟨aq,A,c,rfl,_,_,al⟩:=aF;rcases A with _ |ad
 .have aA:m=0:=by
   rcases Nat.eq_zero_or_pos m with aw |aw
   .exact aw
   .obtain⟨b,o,h,_⟩:=al aw
    cases h
  subst aA;have hn:eS=[]:=List.eq_nil_of_length_eq_zero (by simpa using aq);subst hn;exact⟨v,w,Xd w base t ty e i size cr aI v n xs du c,by simpa using du,World.grownBy.refl w _,.inl rfl⟩
 .have wQ: ∀j u,eS[j]? =some u->w.cell? (ad.add j)=some u:=by
   intro j u a8;rcases Nat.eq_zero_or_pos m with aw |aw
   .subst aw;have hn:eS=[]:=List.eq_nil_of_length_eq_zero (by simpa using aq);subst hn;simp at a8
   .obtain⟨b,o,h,_,_,H⟩:=al aw;injection h with h
    subst h;rw[pX];exact H j u a8
  obtain⟨cU,w',dO,G,aZ,_,bK⟩:=run_append_own_at (P:=P) w base t ty e i aB size bytes cr aI aR yG tQ nz cQ v n xs du ad m c eS aq wQ E AT AU AV;exact⟨cU,w',dO,G,aZ,bK⟩
theorem Xe {P:Program} (w:World) {o:Oper} {a:Act} {K:Act->World->Prop} {Q:Exit->Act->World->Prop} (s x:Operand) (t:TypeId)
  (ai:o.op= .call {callee:=.builtin .append,args:= #[s,x],argTypes:= #[t,t]})
  (base:Nat) (e:TypeId) (aB:Value) (size bytes:Nat) (cr:P.underlying t=some (.slice e)) (pY:(P.info? e).map (fun i=>(i.zero,i.size,i.bytes))=some (some aB,size,bytes)) (nz:aB.cells.size=size) (cQ:0 < size)
  (v:Value) (n:Nat) (xs:List Value) (ax:a.eval s=v) (du:w.ownsRow base e size v n xs)
  (D:Nat->Prop) (hZ:Value) (m:Nat) (eS:List Value) (hx:a.eval x=hZ) (aF:eL D w size hZ m eS) (E: ∀u∈eS,u.oneCell'=true)
  (AT:n+m<=maxLen) (AU:(n+m)*bytes<=140737488355328) (AV:base<=w.heap.size)
  (h: ∀cU w',w'.ownsRow base e size cU (n+m) (xs++eS)->w.grownBy w' v.ownBlock->(cU.ownBlock=v.ownBlock\/cU.ownBlock=some w.heap.size)->K (a.put o.dst cU) w'):o.wp P a w K Q:=by
 obtain⟨i,aI,aR,yG,tQ⟩:=info_parts pY;obtain⟨cU,w',dO,G,al,aZ⟩:=H0 (P:=P) w base t o.type e i aB size bytes cr aI aR yG tQ nz cQ v n xs du D hZ m eS aF E AT AU AV;unfold Oper.wp execOp;simp only[ai,resolve,invoke,builtin,Sem.run_bind,Sem.run_pure,Result.andThen_ok,List.map_toArray,aq4,au0,ax,hx,dO];exact h cU w' G al aZ
theorem N2 {P:Program} (w:World) {c9:Array Oper} {rest:List Oper} {o:Oper} {a:Act} {Q:Exit->Act->World->Prop} (tR:o.guard=none) (s x:Operand) (t:TypeId)
  (ai:o.op= .call {callee:=.builtin .append,args:= #[s,x],argTypes:= #[t,t]})
  (base:Nat) (e:TypeId) (aB:Value) (size bytes:Nat) (cr:P.underlying t=some (.slice e)) (pY:(P.info? e).map (fun i=>(i.zero,i.size,i.bytes))=some (some aB,size,bytes)) (nz:aB.cells.size=size) (cQ:0 < size)
  (v:Value) (n:Nat) (xs:List Value) (ax:a.eval s=v) (du:w.ownsRow base e size v n xs)
  (D:Nat->Prop) (hZ:Value) (m:Nat) (eS:List Value) (hx:a.eval x=hZ) (aF:eL D w size hZ m eS) (E: ∀u∈eS,u.oneCell'=true)
  (AT:n+m<=maxLen) (AU:(n+m)*bytes<=140737488355328) (AV:base<=w.heap.size)
  (h: ∀cU w',w'.ownsRow base e size cU (n+m) (xs++eS)->w.grownBy w' v.ownBlock->(cU.ownBlock=v.ownBlock\/cU.ownBlock=some w.heap.size)->wpList P c9 Q rest (a.put o.dst cU) w'):wpList P c9 Q (o::rest) a w:=
 wpList_plain tR fun _ di=>Xe w s x t ai base e aB size bytes cr pY nz cQ v n xs ax du D hZ m eS hx aF E AT AU AV fun cU w' G al aZ=>di _ _ (h cU w' G al aZ)
theorem N3 (l:List UInt8): ∀u∈l.map hY,u.oneCell'=true:=by
 intro u a8;obtain⟨c,_,rfl⟩:=ar2.1 a8;rfl
theorem eL.qO {w:World} {base:Nat} {e:TypeId} {size n:Nat} {v:Value} {xs:List Value} (h:w.ownsRow base e size v n xs):eL (fun i=>v.ownBlock=some i) w size v n xs:=by
 refine⟨h.1,?_⟩;rcases h.2 with⟨rfl,rfl⟩ |⟨g,cap,c8,rfl,a6,bl,E,G,al,aZ⟩
 .exact⟨none,0,rfl,ap0 _,au6,fun h=>absurd h au5⟩
 .refine⟨_,cap,rfl,E,G,fun _=>⟨g,0,rfl,rfl,(h.lt g rfl).2,fun j u aa=>?_⟩⟩;have:=h.cells (g:=g) rfl j u aa
  rwa[pX] at this
theorem eL.wR {D jW:Nat->Prop} {w:World} {size n:Nat} {v:Value} {xs:List Value} (h:eL D w size v n xs) (J: ∀i,i < w.heap.size->D i->jW i):eL jW w size v n xs:=h.mono (kD.refl _ _) (ap0 _) J
theorem ed {W dz:World} (O:Below W.heap.size W dz) {p:Addr} {v:Value} (h:W.cell? p=some v):dz.cell? p=some v:=
 (O.cell (World.block_lt_of_cell? W p h)).trans h
def nA (w:World) (g:Nat) (l:List Value):Prop:= ∃t,w.heap[g]? =some (.cells l.toArray t (0,0))
theorem nA.c {w:World} {g:Nat} {l:List Value} (h:nA w g l) (j:Nat) (u:Value) (aa:l[j]? =some u):w.cell? ⟨g,j,none⟩=some u:=by
 obtain⟨t,h⟩:=h;simp[World.cell?,h,aa]
theorem nA.ed {W dz:World} (O:Below W.heap.size W dz) {g:Nat} {l:List Value} (h:nA W g l):nA dz g l:=by
 obtain⟨t,h⟩:=h;exact⟨t,(O.block g (k0 h)).trans h⟩
theorem nA.kb {W dz:World} {g:Nat} {l:List Value} (h:nA W g l) (O:dz.heap[g]? =W.heap[g]?):nA dz g l:=by
 obtain⟨t,h⟩:=h;exact⟨t,O.trans h⟩
theorem nA.lt {w:World} {g:Nat} {l:List Value} (h:nA w g l):g < w.heap.size:=by
 obtain⟨t,h⟩:=h;exact k0 h
theorem nA.set {w:World} {g:Nat} {l:List Value} (h:nA w g l) (j:Nat) (u:Value):nA (w.setCell ⟨g,j,none⟩ u) g (l.set j u):=by
 obtain⟨t,h⟩:=h;refine⟨t,?_⟩;simp[World.setCell,Array.getElem?_modify,h]
theorem nA.other {w:World} {g:Nat} {l:List Value} (h:nA w g l) {p:Addr} (ag:g≠p.block) (u:Value):nA (w.setCell p u) g l:=h.kb (Below.heap_setCell w p u g ag)
theorem pg.below {D:Nat->Prop} {w w':World} {v:Value} {l:List lW} (h:pg D w v l) (O:Below w.heap.size w w'):pg D w' v l:=
 h.mono (kD.mn O) O.size fun _ _ h=>h
theorem kE.below {D:Nat->Prop} {w w':World} {v:Value} {l:List UInt8} (h:kE D w v l) (O:Below w.heap.size w w'):kE D w' v l:=
 h.mono (kD.mn O) O.size fun _ _ h=>h
theorem eL.below {D:Nat->Prop} {w w':World} {size n:Nat} {v:Value} {xs:List Value} (h:eL D w size v n xs) (O:Below w.heap.size w w'):eL D w' size v n xs:=
 h.mono (kD.mn O) O.size fun _ _ h=>h
theorem sU (w:World) (o:Obj):Below w.heap.size w (w.alloc o):=(Below.refl _ _).alloc (ap0 _) _
theorem Xf (w:World):Below w.heap.size w w.drew:=(Below.refl _ _).drew
def N4 {α:Type} (R:(Nat->Prop)->World->α->List Value->Prop):Prop:=
 ∀(D jW:Nat->Prop) (w w':World),kD D w w'->w.heap.size<=w'.heap.size->(∀i,i < w.heap.size->D i->jW i)-> ∀a c,R D w a c->R jW w' a c
def aP (B:Nat) (v:Value):Nat->Prop:=fun i=>B<=i/\v.ownBlock≠some i
def tS {α:Type} (R:(Nat->Prop)->World->α->List Value->Prop) (T s:Nat) (w:World) (B:Nat) (v:Value) (l:List α):Prop:=
 ∃xs,w.ownsRow B T s v l.length xs/\iQ (R (aP B v)) w l xs
theorem tS.nil {α:Type} (R:(Nat->Prop)->World->α->List Value->Prop) (T s:Nat) (w:World) (B:Nat):tS R T s w B (.slice none 0 0) []:=⟨[],World.ownsRow_nil _ _ _ _,rfl⟩
theorem Xg {w w':World} {base:Nat} {e:TypeId} {size n:Nat} {v:Value} {xs:List Value} (h:w.ownsRow base e size v n xs) (O:Below w.heap.size w w'):w'.ownsRow base e size v n xs:=
 h.kept (row:=none) ⟨O.os,O.tape,O.output,O.size,fun k ab _=>O.block k ab⟩ (by cases v.ownBlock <;>simp)
theorem tS.below {α:Type} {R:(Nat->Prop)->World->α->List Value->Prop} (fp:N4 R) {T s:Nat} {w w':World} {B:Nat} {v:Value} {l:List α} (h:tS R T s w B v l) (O:Below w.heap.size w w'):tS R T s w' B v l:=by
 obtain⟨xs,E,G⟩:=h;exact⟨xs,Xg E O,iQ.mono (fun a c H=>fp _ _ _ _ (kD.mn O) O.size (fun _ _ h=>h) a c H) l xs G⟩
theorem tS.qN {α:Type} {R:(Nat->Prop)->World->α->List Value->Prop} (fp:N4 R) {T s:Nat} {w w':World} {B n:Nat} {v cU:Value} {l:List α} {xs:List Value} {a:α} {c:List Value}
  (G:iQ (R (aP B v)) w l xs) (H:R (aP B v) w a c) (aq:n=(l++[a]).length) (du:w'.ownsRow B T s cU n (xs++c)) (nB:w.grownBy w' v.ownBlock) (iR:cU.ownBlock=v.ownBlock\/cU.ownBlock=some w.heap.size):tS R T s w' B cU (l++[a]):=by
 subst aq;have ab:kD (aP B v) w w':=fun i aI b9=>nB.block i aI (fun e=>b9.2 e.symm)
 have J: ∀i,i < w.heap.size->aP B v i->aP B cU i:=fun i aI b9=>⟨b9.1,by
  rcases iR with e |e <;>rw[e]
  .exact b9.2
  .intro e;injection e;omega⟩
 exact⟨_,du,iQ.qN (fp _ _ _ _ ab nB.size J a c H) l xs (iQ.mono (fun a c H=>fp _ _ _ _ ab nB.size J a c H) l xs G)⟩
theorem tS.N1 {T:Nat} {w:World} {B:Nat} {v:Value} {l:List lW} (h:tS sS T 2 w B v l):pg (fun i=>B<=i) w v l:=by
 obtain⟨xs,E,G⟩:=h;exact⟨xs,(eL.qO E).wR fun i _ aI=>(E.lt i aI).1,iQ.mono (fun a c H=>sS.mono (kD.refl _ _) (ap0 _) (fun i _ aI=>aI.1) a c H) l xs G⟩
theorem pg.get {D:Nat->Prop} {w:World} {A:Option Addr} {n c:Nat} {l:List lW} (h:pg D w (.slice A n c) l) {k:Nat} {p:lW} (hx:l[k]? =some p):
  ∃b o A' bX,A=some ⟨b,o,none⟩/\D b/\b < w.heap.size/\w.cell? ⟨b,o+k*2,none⟩=some (.int .i64 p.C)/\w.cell? ⟨b,o+k*2+1,none⟩=some (.slice A' p.B.length bX)/\kE D w (.slice A' p.B.length bX) p.B/\p.B.length<=bX/\bX<=maxLen:=by
 obtain⟨ab,rfl⟩:=ap5.1 hx;have hn:n=l.length:=by obtain⟨A',bX,V,_,_⟩:=h.form;injection V
 obtain⟨-,b,o,bv,AS,rfl,b9,O,gV,cB,c'⟩:=h.at_ (k:=k) au5;obtain⟨A',bX,rfl,E,G⟩:=c'.form;exact⟨b,o,A',bX,rfl,b9,O,gV,cB,c',E,G⟩
theorem eL.drew {D:Nat->Prop} {w:World} {size n:Nat} {v:Value} {xs:List Value} (h:eL D w size v n xs):eL D w.drew size v n xs:=h
theorem N5 {w w':World} {row:Option Nat} {S:Nat->Prop} (a6:w.grownBy w' row) (aF: ∀k,row=some k->S k):cJ S w w':=
 ⟨a6.os,a6.tape,a6.output,a6.size,fun k ab hn=>a6.block k ab (fun e=>hn (aF k e.symm))⟩
theorem Xh {D:Nat->Prop} {w:World} {m:Nat} {hZ:Value} {ys:List Value} (h:eL D w 1 hZ m ys) (tT:Nat):
  ∃sp DS,hZ= .slice sp m DS/\(ys.take tT).length=Nat.min m tT/\(0 < (ys.take tT).length-> ∃ad,sp=some ad/\ ∀j v,(ys.take tT)[j]? =some v->w.cell? (ad.add j)=some v):=by
 obtain⟨aq,A,c,rfl,_,_,al⟩:=h;have pZ:ys.length=m:=by omega
 have AW:(ys.take tT).length=Nat.min m tT:=by rw[ap8,pZ];exact Nat.min_comm _ _
 refine⟨A,c,rfl,AW,fun ag=>?_⟩
 have aA:0 < m:=by
  have:=Nat.min_le_left m tT;have e:min m tT=Nat.min m tT:=rfl;omega
 obtain⟨b,o,rfl,_,_,H⟩:=al aA;refine⟨_,rfl,fun j v aa=>?_⟩;rw[pX];refine H j v ?_;rw[List.getElem?_take] at aa
 split at aa
 .exact aa
 .cases aa
theorem Xi {P:Program} (w:World) (hZ dst e:TypeId) (s:ByteArray) (ax:P.underlying hZ=some .string) (J:P.underlying dst=some (.slice e)) (V:P.underlying e=some (.int .u8)) (aA:s.size<=4294967296):
  ∃cap dz,(convert hZ dst (.string s)).run P w= .ok (.slice (some ⟨w.heap.size,0,none⟩) s.size cap) dz/\kE (fun i=>w.heap.size<=i) dz (.slice (some ⟨w.heap.size,0,none⟩) s.size cap) s.data.toList/\Below w.heap.size w dz:=by
 refine⟨_,_,Lib.run_convert_string_bytes w hZ dst e s ax J V,?_,?_⟩
 .have aq:s.data.toList.length=s.size:=by simp
  unfold kE;rw[aq];refine⟨by rw[aq3,aq];omega,_,_,rfl,grownCap_ge _ _ _ _,grownCap_le_maxLen _ _ _ _ (by simp only[maxLen];omega),fun _=>⟨_,0,rfl,ap0 _,by rw[Lib.bytesWorld_size];omega,fun j u aa=>?_⟩⟩
  have rR:j < s.data.toList.length:=by
   have:=(ap5.1 aa).1;simpa using this
  rw[Nat.zero_add,Lib.bytesWorld_cell w e s j au5];rw[ar0,oj rR] at aa;simp only[at2,ap4] at aa;rw[<-aa,ap9,oj rR];rfl
 .exact⟨rfl,rfl,rfl,by rw[Lib.bytesWorld_size];omega,fun k ab=>Lib.bytesWorld_at_old w e s k ab⟩
theorem N6 {P:Program} {D:Nat->Prop} {w:World} {A:Option Addr} {n c:Nat} {l:List UInt8} (h:kE D w (.slice A n c) l) (hZ dst e:TypeId) (ax:P.underlying hZ=some (.slice e)) (V:P.underlying e=some (.int .u8)) (J:P.underlying dst=some .string):
  (convert hZ dst (.slice A n c)).run P w= .ok (.string ⟨l.toArray⟩) w:=by
 obtain⟨aq,A',bX,az,_,_,al⟩:=h;injection az with aj ap bm
 subst aj ap bm;rcases A with _ |ad
 .have aw:l=[]:=by
   rcases Nat.eq_zero_or_pos l.length with h |h
   .exact List.eq_nil_of_length_eq_zero h
   .obtain⟨b,o,ha,_⟩:=al h;cases ha
  subst aw;exact run_convert_bytes_nil w hZ e ax V _ _ dst J
 .refine run_convert_bytes_back w hZ dst e ad _ l ax V J fun j aa=>?_
  obtain⟨b,o,ha,_,_,H⟩:=al au5;injection ha with ha
  subst ha;rw[pX];exact H j _ (by simp[oj aa,hY])
def AX (_:Nat->Prop) (_:World) (p:lW) (c:List Value):Prop:=c=[.int .i64 p.C,.string ⟨p.B.toArray⟩]
def sV (D:Nat->Prop) (w:World) (v:Value) (l:List lW):Prop:= ∃xs,eL D w 2 v l.length xs/\iQ (AX D) w l xs
theorem sV.mono {D jW:Nat->Prop} {w w':World} {v:Value} {l:List lW} (h:sV D w v l) (ab:kD D w w') (hw:w.heap.size<=w'.heap.size) (J: ∀i,i < w.heap.size->D i->jW i):sV jW w' v l:=by
 obtain⟨xs,E,G⟩:=h;exact⟨xs,E.mono ab hw J,iQ.mono (R:=AX D) (R':=AX jW) (fun _ _ h=>h) l xs G⟩
theorem sV.below {D:Nat->Prop} {w w':World} {v:Value} {l:List lW} (h:sV D w v l) (O:Below w.heap.size w w'):sV D w' v l:=h.mono (kD.mn O) O.size fun _ _ h=>h
theorem sV.form {D:Nat->Prop} {w:World} {v:Value} {l:List lW} (h:sV D w v l): ∃A c,v= .slice A l.length c/\l.length<=c/\c<=maxLen:=by
 obtain⟨xs,⟨_,A,c,rfl,E,G,_⟩,_⟩:=h;exact⟨A,c,rfl,E,G⟩
theorem eL.elem {α:Type} {D:Nat->Prop} {w:World} {s:Nat} {A:Option Addr} {n c:Nat} {l:List α} {xs:List Value} {R:World->α->List Value->Prop} (h:eL D w s (.slice A n c) l.length xs) (aF:iQ R w l xs) (ax: ∀a c,R w a c->c.length=s) {k:Nat} {x:α} (hx:l[k]? =some x):
  n=l.length/\k < n/\ ∃b o cs,A=some ⟨b,o,none⟩/\D b/\b < w.heap.size/\R w x cs/\ ∀j u,cs[j]? =some u->w.cell? ⟨b,o+(k*s+j),none⟩=some u:=by
 obtain⟨ab,rfl⟩:=ap5.1 hx;obtain⟨aq,A',bX,V,_,_,al⟩:=h;injection V with aj ap bm
 subst aj ap bm;obtain⟨b,o,rfl,b9,O,H⟩:=al au5;obtain⟨cs,fp,aa⟩:=iQ.get ax l xs aF k ab;refine⟨rfl,ab,b,o,cs,rfl,b9,O,fp,fun j u N7=>H _ u ?_⟩;have Xj:j < s:=by rw[<-ax _ _ fp];exact(ap5.1 N7).1
 rw[aa j Xj];exact N7
theorem sV.get {D:Nat->Prop} {w:World} {A:Option Addr} {n c:Nat} {l:List lW} (h:sV D w (.slice A n c) l) {k:Nat} {p:lW} (hx:l[k]? =some p):
  ∃b o,A=some ⟨b,o,none⟩/\D b/\b < w.heap.size/\w.cell? ⟨b,o+k*2,none⟩=some (.int .i64 p.C)/\w.cell? ⟨b,o+k*2+1,none⟩=some (.string ⟨p.B.toArray⟩):=by
 obtain⟨xs,E,G⟩:=h;obtain⟨-,-,b,o,cs,rfl,b9,O,fp,H⟩:=eL.elem E G (fun a c h=>by unfold AX at h;subst h;rfl) hx;unfold AX at fp;subst fp;refine⟨b,o,rfl,b9,O,?_,?_⟩
 .simpa using H 0 _ rfl
 .simpa[Nat.add_assoc] using H 1 _ rfl
theorem H1 {w:World} (o:Obj) {g:Nat} (h:g=w.heap.size):(w.alloc o).heap[g]? =some o:=by subst h;exact heap_alloc_new w o
end
section
inductive bx where
 |int (k:IntKind)
 |u8
 |bool
 |str
 |aM
 |dC
 |fn
 |b7 (u:bx)
 |bR (u v:bx)
 |arr (n:Nat) (u:bx)
def Z:bx->Type
 | .int _=>Int
 | .u8=>UInt8
 | .bool=>Bool
 | .str=>List UInt8
 | .aM=>Option Nat
 | .dC=>Option (Nat×Nat×Nat)
 | .fn=>Nat×List Nat
 | .b7 u=>List (Z u)
 | .bR u v=>Z u×Z v
 | .arr _ u=>List (Z u)
def aS:bx->Nat
 | .int _=>1
 | .u8=>1
 | .bool=>1
 | .str=>1
 | .aM=>1
 | .dC=>1
 | .fn=>1
 | .b7 _=>1
 | .bR u v=>aS u+aS v
 | .arr n u=>n*aS u
def cK:(u:bx)->Z u
 | .int _=>(0:Int)
 | .u8=>(0:UInt8)
 | .bool=>false
 | .str=>([]:List UInt8)
 | .aM=>(none:Option Nat)
 | .dC=>(none:Option (Nat×Nat×Nat))
 | .fn=>((0,[]):Nat×List Nat)
 | .b7 _=>[]
 | .bR u v=>(cK u,cK v)
 | .arr n u=>List.replicate n (cK u)
inductive D where
 |int (k:IntKind) (n:Int)
 |lit (b:Bool)
 |bool (b:Bool)
 |str (s:List UInt8)
 |aM (x:Option Nat)
 |dC (x:Option (Nat×Nat×Nat))
 |fn (x:Nat×List Nat)
 |ck (u:bx) (xs:List (Z u))
def fA:(u:bx)->Z u->Nat->D
 | .int k,n,_=>.int k n
 | .u8,b,_=>.int .u8 (UInt8.toNat b:Int)
 | .bool,b,_=>.bool b
 | .str,s,_=>.str s
 | .aM,x,_=>.aM x
 | .dC,x,_=>.dC x
 | .fn,x,_=>.fn x
 | .b7 u,xs,_=>.ck u xs
 | .bR u v,p,j=>match Nat.blt j (aS u) with
  |true=>fA u p.1 j
  |false=>fA v p.2 (j - aS u)
 | .arr _ u,xs,j=>fA u (List.getD xs (j/aS u) (cK u)) (j % aS u)
def fB {α:Type} (xs:List α) (i:Nat):Option α:=xs[i]?
def DT {α:Type} (x:α) (xs:List α):Prop:=x∈xs
theorem Xk {α:Type} (xs:List α) (i:Nat) (d:α) (h:i < xs.length):fB xs i=some (xs.getD i d):=by
 unfold fB;rw[ap9,oj h];rfl
theorem Xl {α:Type} {xs:List α} {i:Nat} {y:α} (d:α) (h:fB xs i=some y):xs.getD i d=y:=by
 unfold fB at h;rw[ap9,h];rfl
theorem AY {α:Type} {xs:List α} {i:Nat} {y:α} (h:fB xs i=some y):i < xs.length:=(ap5.1 h).1
theorem Xm {α:Type} {xs:List α} {i:Nat} {y:α} (h:fB xs i=some y):DT y xs:=List.mem_of_getElem? h
def ow:(u:bx)->Z u->Prop
 | .bR u v,p=>ow u p.1/\ow v p.2
 | .arr n u,xs=>List.length xs=n/\ ∀x,DT (α:=Z u) x xs->ow u x
 |_,_=>True
def nC:Option Nat->Option Addr
 |none=>none
 |some b=>some ⟨b,0,none⟩
def qP:Option (Nat×Nat×Nat)->Value
 |none=>.slice none 0 0
 |some (b,n,cap)=>.slice (some ⟨b,0,none⟩) n cap
def qQ:List Nat->List Value
 | []=>[]
 |b::l=>.pointer (some ⟨b,0,none⟩)::qQ l
def mo (x:Nat×List Nat):Value:=.func (.func x.1) #[] (List.toArray (qQ x.2))
def cp (I:Nat->Prop) (w:World):(u:bx)->Z u->(Nat->Option Value)->Prop
 | .int k,n,c=>c 0=some (.int k n)
 | .u8,b,c=>c 0=some (.int .u8 (UInt8.toNat b:Int))
 | .bool,b,c=>c 0=some (.bool b)
 | .str,s,c=>c 0=some (.string ⟨List.toArray s⟩)
 | .aM,x,c=>c 0=some (.pointer (nC x))
 | .dC,x,c=>c 0=some (qP x)
 | .fn,x,c=>c 0=some (mo x)
 | .b7 u,xs,c=> ∃A cap,c 0=some (.slice A (List.length xs) cap)/\List.length xs<=cap/\cap<=maxLen/\
  (0 < List.length xs-> ∃b o,A=some ⟨b,o,none⟩/\I b/\ ∀i x,fB (α:=Z u) xs i=some x->cp I w u x (fun j=>w.cell? ⟨b,o+(i*aS u+j),none⟩))
 | .bR u v,p,c=>cp I w u p.1 c/\cp I w v p.2 (fun j=>c (aS u+j))
 | .arr n u,xs,c=>List.length xs=n/\ ∀i x,fB (α:=Z u) xs i=some x->cp I w u x (fun j=>c (i*aS u+j))
def gE (I:Nat->Prop) (w:World):D->Value->Prop
 | .int k n,v=>v= .int k n
 | .lit b,v=>v= .bool b
 | .bool b,v=>v= .bool b
 | .str s,v=>v= .string ⟨s.toArray⟩
 | .aM x,v=>v= .pointer (nC x)
 | .dC x,v=>v=qP x
 | .fn x,v=>v=mo x
 | .ck u xs,v=>cp I w (.b7 u) xs (fun _=>some v)
def cd (I:Nat->Prop) (w:World) (I':Nat->Prop) (w':World):Prop:= ∀b,I b->I' b/\w'.heap[b]? =w.heap[b]?
section
variable {I I':Nat->Prop} {w w':World}
theorem cd.refl (I:Nat->Prop) (w:World):cd I w I w:=fun _ h=>⟨h,rfl⟩
theorem cd.trans {N8:Nat->Prop} {N9:World} (h:cd I w I' w') (k:cd I' w' N8 N9):cd I w N8 N9:=fun b O=>⟨(k b (h b O).1).1,(k b (h b O).1).2.trans (h b O).2⟩
theorem N' {b o:Nat} {v:Value} (h:w'.heap[b]? =w.heap[b]?) (H:w.cell? ⟨b,o,none⟩=some v):w'.cell? ⟨b,o,none⟩=some v:=
 (World.cell?_of_block (a:=⟨b,o,none⟩) h).trans H
theorem cp.mono (V:cd I w I' w'): ∀(u:bx) (x:Z u) (c bX:Nat->Option Value),(∀j v,c j=some v->bX j=some v)->cp I w u x c->cp I' w' u x bX:=by
 intro u
 induction u with
 |int k=>exact fun x c bX H h=>H _ _ h
 |u8=>exact fun x c bX H h=>H _ _ h
 |bool=>exact fun x c bX H h=>H _ _ h
 |str=>exact fun x c bX H h=>H _ _ h
 |aM=>exact fun x c bX H h=>H _ _ h
 |dC=>exact fun x c bX H h=>H _ _ h
 |fn=>exact fun x c bX H h=>H _ _ h
 |b7 u br=>
  rintro x c bX H ⟨A,cap,aw,E,G,al⟩;refine⟨A,cap,H _ _ aw,E,G,fun aq=>?_⟩;obtain⟨b,o,eG,bb,hx⟩:=al aq;exact⟨b,o,eG,(V b bb).1,fun i y aC=>br _ _ _ (fun j v az=>N' (V b bb).2 az) (hx i y aC)⟩
 |bR u v ox oy=>exact fun x c bX H h=>⟨ox _ _ _ H h.1,oy _ _ _ (fun j v az=>H _ _ az) h.2⟩
 |arr n u br=>exact fun x c bX H h=>⟨h.1,fun i y aC=>br _ _ _ (fun j v az=>H _ _ az) (h.2 i y aC)⟩
theorem gE.mono (V:cd I w I' w'): ∀(x:D) (v:Value),gE I w x v->gE I' w' x v
 | .int _ _,_,h=>h
 | .lit _,_,h=>h
 | .bool _,_,h=>h
 | .str _,_,h=>h
 | .aM _,_,h=>h
 | .dC _,_,h=>h
 | .fn _,_,h=>h
 | .ck u xs,v,h=>cp.mono V (.b7 u) xs (fun _=>some v) (fun _=>some v) (fun _ _ h=>h) h
theorem DU {j n s:Nat} (h:j < n*s):j/s < n/\j % s < s/\j/s*s+j % s=j:=by
 have ax:0 < s:=by
  rcases Nat.eq_zero_or_pos s with aw |aw
  .subst aw;simp at h
  .exact aw
 exact⟨(Nat.div_lt_iff_lt_mul ax).2 h,Nat.mod_lt _ ax,by rw[Nat.mul_comm];exact Nat.div_add_mod j s⟩
theorem cp.cell: ∀(u:bx) (x:Z u) (c:Nat->Option Value) (j:Nat),cp I w u x c->j < aS u-> ∃v,c j=some v/\gE I w (fA u x j) v:=by
 intro u
 induction u with
 |int k=>exact fun x c j h aa=>⟨_,(by
       have:j=0:=by simp[aS] at aa;exact aa
       subst this;exact h),rfl⟩
 |u8=>exact fun x c j h aa=>⟨_,(by
    have:j=0:=by simp[aS] at aa;exact aa
    subst this;exact h),rfl⟩
 |bool=>exact fun x c j h aa=>⟨_,(by
      have:j=0:=by simp[aS] at aa;exact aa
      subst this;exact h),rfl⟩
 |str=>exact fun x c j h aa=>⟨_,(by
     have:j=0:=by simp[aS] at aa;exact aa
     subst this;exact h),rfl⟩
 |aM=>exact fun x c j h aa=>⟨_,(by
     have:j=0:=by simp[aS] at aa;exact aa
     subst this;exact h),rfl⟩
 |dC=>exact fun x c j h aa=>⟨_,(by
     have:j=0:=by simp[aS] at aa;exact aa
     subst this;exact h),rfl⟩
 |fn=>exact fun x c j h aa=>⟨_,(by
    have:j=0:=by simp[aS] at aa;exact aa
    subst this;exact h),rfl⟩
 |b7 u _=>
  intro x c j h aa;have:j=0:=by simp[aS] at aa;exact aa
  subst this;obtain⟨A,cap,aw,E⟩:=h;exact⟨_,aw,A,cap,rfl,E⟩
 |bR u v ox oy=>
  intro x c j h aa;simp only[aS] at aa;unfold fA
  by_cases bw:j < aS u
  .rw[show Nat.blt j (aS u)=true by simpa[Nat.blt_eq] using bw];exact ox _ _ _ h.1 bw
  .rw[show Nat.blt j (aS u)=false by rw[at4];simpa[Nat.blt_eq] using bw];have:=oy _ _ (j - aS u) h.2 au5
   rwa[show aS u+(j - aS u)=j by omega] at this
 |arr n u br=>
  intro x c j h aa;obtain⟨aj,ap,bm⟩:=DU (by simpa[aS] using aa);have aq:j/aS u < List.length x:=by rw[h.1];exact aj
  have a6:fB (α:=Z u) x (j/aS u)=some (List.getD x (j/aS u) (cK u)):=Xk (α:=Z u) x _ _ aq;have:=br _ _ (j % aS u) (h.2 _ _ a6) ap;rw[bm] at this;exact this
theorem cp.mk: ∀(u:bx) (x:Z u) (c:Nat->Option Value),ow u x->(∀j,j < aS u-> ∃v,c j=some v/\gE I w (fA u x j) v)->cp I w u x c:=by
 intro u
 induction u with
 |int k=>intro x c _ h;obtain⟨v,E,G⟩:=h 0 (by simp[aS]);rw[show v=_ from G] at E;exact E
 |u8=>intro x c _ h;obtain⟨v,E,G⟩:=h 0 (by simp[aS]);rw[show v=_ from G] at E;exact E
 |bool=>intro x c _ h;obtain⟨v,E,G⟩:=h 0 (by simp[aS]);rw[show v=_ from G] at E;exact E
 |str=>intro x c _ h;obtain⟨v,E,G⟩:=h 0 (by simp[aS]);rw[show v=_ from G] at E;exact E
 |dC=>intro x c _ h;obtain⟨v,E,G⟩:=h 0 (by simp[aS]);rw[show v=_ from G] at E;exact E
 |fn=>intro x c _ h;obtain⟨v,E,G⟩:=h 0 (by simp[aS]);rw[show v=_ from G] at E;exact E
 |aM=>intro x c _ h;obtain⟨v,E,G⟩:=h 0 (by simp[aS]);rw[show v=_ from G] at E;exact E
 |b7 u _=>
  intro x c _ h;obtain⟨v,E,A,cap,G,al⟩:=h 0 (by simp[aS]);exact⟨A,cap,E.trans G,al⟩
 |bR u v ox oy=>
  intro x c hw h;refine⟨ox _ _ hw.1 fun j aa=>?_,oy _ _ hw.2 fun j aa=>?_⟩
  .obtain⟨v,E,G⟩:=h j (by simp only[aS];omega);unfold fA at G;rw[show Nat.blt j (aS u)=true by simpa[Nat.blt_eq] using aa] at G;exact⟨v,E,G⟩
  .obtain⟨cU,E,G⟩:=h (aS u+j) (by simp only[aS];omega);unfold fA at G;rw[show Nat.blt (aS u+j) (aS u)=false by rw[at4];simp[Nat.blt_eq]] at G;rw[show aS u+j - aS u=j by omega] at G;exact⟨cU,E,G⟩
 |arr n u br=>
  intro x c hw h;refine⟨hw.1,fun i y aC=>br _ _ (hw.2 y (Xm (α:=Z u) aC)) fun j aa=>?_⟩;have aI:i < List.length x:=AY (α:=Z u) aC;have fq:i < n:=by rw[<-hw.1];exact aI
  have bw:i*aS u+j < n*aS u:=by
   have:=Nat.mul_le_mul_right (aS u) fq;rw[Nat.succ_mul] at this;omega
  obtain⟨v,E,G⟩:=h (i*aS u+j) bw;unfold fA at G
  have aj:(i*aS u+j)/aS u=i:=by
   rw[Nat.mul_comm,Nat.mul_add_div au5,Nat.div_eq_of_lt aa,Nat.add_zero]
  have ap:(i*aS u+j) % aS u=j:=by
   rw[Nat.mul_comm,Nat.mul_add_mod,Nat.mod_eq_of_lt aa]
  rw[aj,ap] at G;rw[show List.getD x i (cK u)=y from Xl (α:=Z u) _ aC] at G;exact⟨v,E,G⟩
end
structure bo where
 bk:Nat
 A:Option Addr
 n:Nat
 cap:Nat
def bo.er (p:bo):Value:=.slice p.A p.n p.cap
inductive kF where
 |p (c off:Nat)
 |d (x:D)
inductive bC where
 |d (x:D)
 |ptr (c off:Nat)
 |own (c:Nat)
 |el (u:bx) (x:Z u) (off:Nat)
 |f1 (c s i off:Nat)
 |os (c s off n:Nat)
 |mp (c:Nat)
 |cT (f:FuncId) (l:List kF)
 |dD
 |bI (v:Value)
 |any
inductive dI where
 |one (s:bC)
 |agg (l:List bC)
 |jX (u:bx) (x:Z u)
inductive aQ where
 |c (x:dI)
 |ce (l:List dI)
 |undef
structure bh where
 R:(Nat->Prop)->(Nat->Prop)->World->bo->Prop
 cg: ∀(I F:Nat->Prop) (w:World) (I':Nat->Prop) (w':World) (p:bo),R I F w p->cd I w I' w'->(∀b,F b->w'.heap[b]? =w.heap[b]?)->w.heap.size<=w'.heap.size->R I' F w' p
inductive bd where
 |cells (l:List bC)
 |row (e:TypeId) (u:bx) (xs:List (Z u))
 |map (aJ aL:bx) (es:List (Z aJ×Z aL))
 |val (u:bx) (x:Z u)
 |aG (o:bh)
 |co (d:Nat) (o:bo->bh)
def wS (ρ:Nat->bo) (I:Nat->Prop) (w:World):kF->Value->Prop
 | .p c off,v=>v= .pointer (some ⟨(ρ c).bk,off,none⟩)
 | .d x,v=>gE I w x v
def hM (ρ:Nat->bo) (I:Nat->Prop) (w:World):List kF->List Value->Prop
 | [],aD=>aD=[]
 |s::l,aD=> ∃v r,aD=v::r/\wS ρ I w s v/\hM ρ I w l r
def dS (ρ:Nat->bo) (I:Nat->Prop) (w:World):bC->Value->Prop
 | .d x,v=>gE I w x v
 | .ptr c off,v=>v= .pointer (some ⟨(ρ c).bk,off,none⟩)
 | .own c,v=>v=(ρ c).er
 | .el u x off,v=> ∃b o,v= .pointer (some ⟨b,o+off,none⟩)/\I b/\cp I w u x (fun j=>w.cell? ⟨b,o+j,none⟩)
 | .f1 c s i off,v=>v= .pointer (some ⟨(ρ c).bk,i*s+off,none⟩)
 | .os c s off n,v=>v= .slice (if(ρ c).cap=off then(ρ c).A else(ρ c).A.map (·.add (off*s))) n ((ρ c).cap - off)
 | .mp c,v=>v= .map (some (ρ c).bk)
 | .cT f l,v=> ∃aD,v= .func (.func f) #[] (List.toArray aD)/\hM ρ I w l aD
 | .dD,v=>v= .slice none 0 0
 | .bI u,v=>v=u
 | .any,_=>True
def b' (ρ:Nat->bo) (I:Nat->Prop) (w:World):List bC->List Value->Prop
 | [],aD=>aD=[]
 |s::l,aD=> ∃v r,aD=v::r/\dS ρ I w s v/\b' ρ I w l r
def gy (ρ:Nat->bo) (I:Nat->Prop) (w:World):dI->Value->Prop
 | .one s,v=>dS ρ I w s v
 | .agg l,v=> ∃aD,v= .agg (List.toArray aD)/\b' ρ I w l aD
 | .jX u x,v=> ∃aD,v= .agg (List.toArray aD)/\aD.length=aS u/\cp I w u x (fun j=>aD[j]?)
def iJ (ρ:Nat->bo) (I:Nat->Prop) (w:World):List dI->List Value->Prop
 | [],aD=>aD=[]
 |s::l,aD=> ∃v r,aD=v::r/\gy ρ I w s v/\iJ ρ I w l r
def ct (ρ:Nat->bo) (I:Nat->Prop) (w:World):aQ->Value->Prop
 | .c x,v=>gy ρ I w x v
 | .ce l,v=> ∃aD,v= .tuple (List.toArray aD)/\iJ ρ I w l aD
 | .undef,v=>v=Go.undef
def gF:(u:bx)->Z u->Value
 | .int k,n=>.int k n
 | .str,s=>.string ⟨List.toArray s⟩
 |_,_=>.nilFunc
def mW:bx->Bool
 | .bR _ _=>false
 | .arr _ _=>false
 |_=>true
def jk (I:Nat->Prop) (w:World) (u:bx) (x:Z u) (v:Value):Prop:=v.cells.size=aS u/\((mW u=true->v.cells= #[v])/\(mW u=false-> ∃cs,v= .agg cs))/\cp I w u x (fun j=>v.cells.toList[j]?)
def ie (I:Nat->Prop) (w:World) (aJ aL:bx):List (Z aJ×Z aL)->List MapEntry->Prop
 | [],es=>es=[]
 |p::l,es=> ∃e r,es=e::r/\e.key=gF aJ p.1/\jk I w aL p.2 e.val/\ie I w aJ aL l r
def lX (es:List MapEntry) (bU:Nat):Prop:=(es.map (·.born)).Pairwise (· < ·)/\ ∀e,e∈es->e.born < bU
def gK (I:Nat->Prop) (w:World) (u:bx) (xs:List (Z u)) (cs:List Value):Prop:= ∀i x,xs[i]? =some x->cp I w u x (fun j=>cs[i*aS u+j]?)
def Holds (ρ:Nat->bo) (I F:Nat->Prop) (w:World) (p:bo):bd->Prop
 | .cells l=>(∀b,F b↔b=p.bk)/\ ∃aD T,w.heap[p.bk]? =some (.cells (List.toArray aD) T (0,0))/\b' ρ I w l aD
 | .row e u xs=>(∀b,F b↔p.er.ownBlock=some b)/\(∀b,p.er.ownBlock=some b->b=p.bk)/\ ∃cs,w.ownsRow 0 e (aS u) p.er xs.length cs/\gK I w u xs cs
 | .map aJ aL es=>(∀b,F b↔b=p.bk)/\ ∃bT bU,w.heap[p.bk]? =some (.map (List.toArray bT) bU)/\ie I w aJ aL es bT/\lX bT bU
 | .val u x=>(∀b,F b↔b=p.bk)/\ ∃aD T,w.heap[p.bk]? =some (.cells (List.toArray aD) T (0,0))/\aD.length=aS u/\cp I w u x (fun j=>aD[j]?)
 | .aG o=>o.R I F w p
 | .co d o=>(o (ρ d)).R I F w p
def lY (c:Nat):List kF->Bool
 | []=>false
 | .p b _::l=>Nat.beq b c||lY c l
 | .d _::l=>lY c l
def bC.has (c:Nat):bC->Bool
 | .ptr b _=>Nat.beq b c
 | .own b=>Nat.beq b c
 | .f1 b _ _ _=>Nat.beq b c
 | .os b _ _ _=>Nat.beq b c
 | .mp b=>Nat.beq b c
 | .cT _ l=>lY c l
 |_=>false
def mq (c:Nat):List bC->Bool
 | []=>false
 |s::l=>s.has c||mq c l
def dI.has (c:Nat):dI->Bool
 | .one s=>s.has c
 | .agg l=>mq c l
 | .jX _ _=>false
def sW (c:Nat):List dI->Bool
 | []=>false
 |s::l=>s.has c||sW c l
def aQ.has (c:Nat):aQ->Bool
 | .c x=>x.has c
 | .ce l=>sW c l
 | .undef=>false
def bd.has (c:Nat):bd->Bool
 | .cells l=>mq c l
 | .co d _=>Nat.beq d c
 |_=>false
section
variable {ρ ρ':Nat->bo} {I I':Nat->Prop} {w w':World}
theorem hM.mono (V:cd I w I' w'): ∀(l:List kF) (aD:List Value),(∀c,lY c l=true->ρ' c=ρ c)->hM ρ I w l aD->hM ρ' I' w' l aD
 | [],_,_,h=>h
 | .p b o::l,_,dl,⟨v,r,e,E,G⟩=>⟨v,r,e,(by have e:=dl b (by simp[lY]);simp only[wS] at*;rw[e];exact E),hM.mono V l r (fun c H=>dl c (by simp[lY,H])) G⟩
 | .d x::l,_,dl,⟨v,r,e,E,G⟩=>⟨v,r,e,gE.mono V x v E,hM.mono V l r (fun c H=>dl c (by simpa[lY] using H)) G⟩
theorem dS.mono (V:cd I w I' w') (s:bC) (v:Value) (dl: ∀c,s.has c=true->ρ' c=ρ c) (h:dS ρ I w s v):dS ρ' I' w' s v:=by
 cases s with
 |d x=>exact gE.mono V x v h
 |ptr c off=>
  have e:=dl c (by simp[bC.has,Nat.beq_eq]);simp only[dS] at*;rw[e];exact h
 |own c=>
  have e:=dl c (by simp[bC.has,Nat.beq_eq]);simp only[dS] at*;rw[e];exact h
 |el u x off=>
  obtain⟨b,o,E,G,al⟩:=h;exact⟨b,o,E,(V b G).1,cp.mono V u x _ _ (fun j v az=>N' (V b G).2 az) al⟩
 |f1 c s i off=>
  have e:=dl c (by simp[bC.has,Nat.beq_eq]);simp only[dS] at*;rw[e];exact h
 |os c s off n=>
  have e:=dl c (by simp[bC.has,Nat.beq_eq]);simp only[dS] at*;rw[e];exact h
 |mp c=>
  have e:=dl c (by simp[bC.has,Nat.beq_eq]);simp only[dS] at*;rw[e];exact h
 |cT f l=>obtain⟨aD,e,h⟩:=h;exact⟨aD,e,hM.mono V l aD dl h⟩
 |dD=>exact h
 |bI u=>exact h
 |any=>trivial
theorem b'.mono (V:cd I w I' w'): ∀(l:List bC) (aD:List Value),(∀c,mq c l=true->ρ' c=ρ c)->b' ρ I w l aD->b' ρ' I' w' l aD
 | [],_,_,h=>h
 |s::l,_,dl,⟨v,r,e,E,G⟩=>⟨v,r,e,dS.mono V s v (fun c H=>dl c (by simp[mq,H])) E,b'.mono V l r (fun c H=>dl c (by simp[mq,H])) G⟩
theorem gy.mono (V:cd I w I' w') (s:dI) (v:Value) (dl: ∀c,s.has c=true->ρ' c=ρ c) (h:gy ρ I w s v):gy ρ' I' w' s v:=by
 cases s with
 |one s=>exact dS.mono V s v dl h
 |agg l=>obtain⟨aD,e,h⟩:=h;exact⟨aD,e,b'.mono V l aD dl h⟩
 |jX u x=>obtain⟨aD,e,E,G⟩:=h;exact⟨aD,e,E,cp.mono V u x _ _ (fun _ _ h=>h) G⟩
theorem iJ.mono (V:cd I w I' w'): ∀(l:List dI) (aD:List Value),(∀c,sW c l=true->ρ' c=ρ c)->iJ ρ I w l aD->iJ ρ' I' w' l aD
 | [],_,_,h=>h
 |s::l,_,dl,⟨v,r,e,E,G⟩=>⟨v,r,e,gy.mono V s v (fun c H=>dl c (by simp[sW,H])) E,iJ.mono V l r (fun c H=>dl c (by simp[sW,H])) G⟩
theorem ct.mono (V:cd I w I' w') (s:aQ) (v:Value) (dl: ∀c,s.has c=true->ρ' c=ρ c) (h:ct ρ I w s v):ct ρ' I' w' s v:=by
 cases s with
 |c s=>exact gy.mono V s v dl h
 |ce l=>obtain⟨aD,e,h⟩:=h;exact⟨aD,e,iJ.mono V l aD dl h⟩
 |undef=>exact h
theorem gK.mono (V:cd I w I' w') {u:bx} {xs:List (Z u)} {cs:List Value} (h:gK I w u xs cs):gK I' w' u xs cs:=fun i x hx=>cp.mono V u x _ _ (fun _ _ h=>h) (h i x hx)
theorem jk.mono (V:cd I w I' w') {u:bx} {x:Z u} {v:Value} (h:jk I w u x v):jk I' w' u x v:=⟨h.1,h.2.1,cp.mono V u x _ _ (fun _ _ h=>h) h.2.2⟩
theorem ie.mono (V:cd I w I' w') {aJ aL:bx}: ∀{l:List (Z aJ×Z aL)} {es:List MapEntry},ie I w aJ aL l es->ie I' w' aJ aL l es
 | [],_,h=>h
 |_::_,_,⟨e,r,aw,E,G,al⟩=>⟨e,r,aw,E,G.mono V,al.mono V⟩
theorem Oa {e s n:Nat} {v:Value} {cs:List Value} (h:w.ownsRow 0 e s v n cs) (O: ∀b,v.ownBlock=some b->w'.heap[b]? =w.heap[b]?):w'.ownsRow 0 e s v n cs:=by
 refine⟨h.1,?_⟩;rcases h.2 with h |⟨g,cap,c8,az,aw,a6,r⟩
 .exact .inl h
 .exact .inr ⟨g,cap,c8,az,aw,(O g (by rw[az];rfl)).trans a6,r⟩
theorem Holds.cg (V:cd I w I' w') {F:Nat->Prop} (bj: ∀b,F b->w'.heap[b]? =w.heap[b]?) (aR:w.heap.size<=w'.heap.size) {p:bo}: ∀(ch:bd),(∀c,ch.has c=true->ρ' c=ρ c)->Holds ρ I F w p ch->Holds ρ' I' F w' p ch
 | .cells l,dl,⟨E,aD,T,G,al⟩=>⟨E,aD,T,(bj _ ((E _).2 rfl)).trans G,b'.mono V l aD dl al⟩
 | .row e u xs,_,⟨E,G,cs,al,aZ⟩=>⟨E,G,cs,Oa al fun b O=>bj b ((E b).2 O),aZ.mono V⟩
 | .map aJ aL es,_,⟨E,bT,bU,G,al,aZ⟩=>⟨E,bT,bU,(bj _ ((E _).2 rfl)).trans G,al.mono V,aZ⟩
 | .val u x,_,⟨E,aD,T,G,al,aZ⟩=>⟨E,aD,T,(bj _ ((E _).2 rfl)).trans G,al,cp.mono V u x _ _ (fun _ _ h=>h) aZ⟩
 | .aG o,_,h=>o.cg _ _ _ _ _ _ h V bj aR
 | .co d o,dl,h=>by
  have e:=dl d (by simp[bd.has]);simp only[Holds] at*;rw[e];exact(o (ρ d)).cg _ _ _ _ _ _ h V bj aR
end
end
section
abbrev a1:=List (Nat×aQ)
abbrev ay:=List (Nat×bd)
def dA:a1->Nat->aQ
 | [],_=>.c (.one .any)
 |(t,v)::K,s=>match Nat.beq t s with
  |true=>v
  |false=>dA K s
def ah:ay->Nat->Option bd
 | [],_=>none
 |(t,v)::B,s=>match Nat.beq t s with
  |true=>some v
  |false=>ah B s
def gL:ay->Nat->ay
 | [],_=>[]
 |(t,v)::B,s=>match Nat.beq t s with
  |true=>gL B s
  |false=>(t,v)::gL B s
theorem hk (B:ay) (c d:Nat):ah (gL B c) d=if c=d then none else ah B d:=by
 induction B with
 |nil=>simp[gL,ah]
 |cons x B br=>
  obtain⟨t,v⟩:=x;unfold gL
  by_cases h:Nat.beq t c=true
  .have e:=ap6 h;subst e;rw[h];simp only[br]
   split
   .rfl
   .rename_i ba;simp only[ah];rw[show Nat.beq t d=false by rw[at4];intro h;exact ba (ap6 h)]
  .rw[Bool.not_eq_true] at h;rw[h];simp only[ah]
   by_cases G:Nat.beq t d=true
   .have e:=ap6 G;subst e;rw[if_neg (fun e=>by subst e;simp at h)];rw[G]
   .rw[Bool.not_eq_true] at G;rw[G];simpa using br
theorem ca (B:ay) (c:Nat) (ch:bd) (d:Nat):ah ((c,ch)::B) d=if c=d then some ch else ah B d:=by
 simp only[ah]
 by_cases h:c=d
 .subst h;simp
 .rw[if_neg h,show Nat.beq c d=false by rw[at4];intro e;exact h (ap6 e)]
theorem kc (K:a1) (c:Nat) (v:aQ) (d:Nat):dA ((c,v)::K) d=if c=d then v else dA K d:=by
 rw[dA.eq_def]
 by_cases h:c=d
 .subst h;simp
 .simp only[if_neg h,show Nat.beq c d=false by rw[at4];intro e;exact h (ap6 e)]
def DV (a:Act) (s:Nat) (v:Value):Prop:=a.tmps.getD s undef=v
theorem DV.eval {a:Act} {s:Nat} {v:Value} (h:DV a s v):a.eval (.tmp s)=v:=h
theorem Ob {a:Act} {d:Nat} {v:Value} (h:d < a.tmps.size):DV (a.put (some d) v) d v:=by simp[DV,Act.put,h]
theorem Xn {a:Act} {d s:Nat} {v:Value} (h:d≠s):a.tmps.getD s undef=(a.put (some d) v).tmps.getD s undef:=by
 simp[Act.put,Array.getElem?_setIfInBounds_ne h]
theorem ke {a:Act} {d:Option Nat} {v:Value}:(a.put d v).tmps.size=a.tmps.size:=by cases d <;>simp[Act.put]
theorem kf {a:Act} {d:Option Nat} {v:Value}:(a.put d v).defers=a.defers:=by cases d <;>simp[Act.put]
structure e8 where
 f2:World
 yH:Nat->Prop
 p0:Nat->Prop
 mr:Nat->bo
 ds:List Nat
def wT (D:Nat):Deferred:={target:=.collected D,args:= #[]}
def bZ (C:e8) (B:ay) (F:Nat->Nat->Prop) (w:World):Nat->Prop:=fun b=>
 b < w.heap.size/\(C.yH b\/C.p0 b\/C.f2.heap.size<=b/\b∉C.ds)/\ ∀c ch,ah B c=some ch-> ¬F c b
structure Mem (ids:List Nat) (C:e8) (B:ay) (ρ:Nat->bo) (F:Nat->Nat->Prop) (w:World):Prop where
 fr:cJ C.p0 C.f2 w
 holds: ∀c ch,ah B c=some ch->Holds ρ (bZ C B F w) (F c) w (ρ c) ch
 own: ∀c ch,ah B c=some ch-> ∀b,F c b->b < w.heap.size/\(C.p0 b\/C.f2.heap.size<=b/\b∉C.ds)
 e9: ∀c bX ch ch' b,ah B c=some ch->ah B bX=some ch'->c≠bX->F c b-> ¬F bX b
 ed: ∀c,c∈ids->ρ c=C.mr c
 kG:C.ds.Nodup/\(∀b,C.yH b\/C.p0 b->b < C.f2.heap.size)/\ ∀D,D∈C.ds->D < w.heap.size/\w.heap[D]? =some (.deferred (some []))/\C.f2.heap.size<=D
def ee (K:a1) (ρ:Nat->bo) (I:Nat->Prop) (a:Act) (w:World):Prop:= ∀s,ct ρ I w (dA K s) (a.tmps.getD s undef)
def eX (N:Nat) (ids:List Nat) (C:e8) (K:a1) (B:ay) (a:Act) (w:World):Prop:=
 a.tmps.size=N/\a.defers=C.ds.map wT/\ ∃ρ F,Mem ids C B ρ F w/\ee K ρ (bZ C B F w) a w
theorem Mem.fresh {ids:List Nat} {C:e8} {B:ay} {ρ:Nat->bo} {F:Nat->Nat->Prop} {w:World} (h:Mem ids C B ρ F w) {b:Nat} (O:w.heap.size<=b):C.f2.heap.size<=b/\b∉C.ds:=
 ⟨as9 h.fr.size O,fun J=>by have:=(h.kG.2.2 b J).1;omega⟩
theorem Mem.step {ids:List Nat} {C:e8} {B B':ay} {ρ ρ':Nat->bo} {F F':Nat->Nat->Prop} {w w':World} (h:Mem ids C B ρ F w) (M DW:Nat->Prop)
  (cz:cJ (fun b=> ∃c ch,ah B c=some ch/\M c/\F c b) w w')
  (qR: ∀c ch,ah B' c=some ch-> ¬M c->ah B c=some ch)
  (dl: ∀c,¬DW c->ρ' c=ρ c) (bj: ∀c,¬M c->F' c=F c) (H2: ∀c,c∈ids-> ¬DW c)
  (lZ: ∀c,DW c->M c)
  (named: ∀c ch,ah B c=some ch-> ¬M c-> ∀d,ch.has d=true-> ¬DW d)
  (new: ∀c ch,ah B' c=some ch->M c->cd (bZ C B F w) w (bZ C B' F' w') w'->Holds ρ' (bZ C B' F' w') (F' c) w' (ρ' c) ch)
  (DX: ∀c ch,ah B' c=some ch->M c-> ∀b,F' c b->b < w'.heap.size/\((∃gV cw,ah B gV=some cw/\M gV/\F gV b)\/w.heap.size<=b))
  (Xo: ∀c bX ch ch' b,ah B' c=some ch->ah B' bX=some ch'->M c->M bX->c≠bX->F' c b-> ¬F' bX b):
  Mem ids C B' ρ' F' w'/\cd (bZ C B F w) w (bZ C B' F' w') w':=by
 have aR:=h.fr.size
 have H3:cd (bZ C B F w) w (bZ C B' F' w') w':=by
  rintro b ⟨E,G,al⟩;refine⟨⟨Nat.lt_of_lt_of_le E cz.size,G,fun c ch H=>?_⟩,cz.block b E ?_⟩
  .by_cases ar:M c
   .intro O;obtain⟨_,dm⟩:=DX c ch H ar b O;rcases dm with⟨gV,cw,aj,_,ap⟩ |dm
    .exact al gV cw aj ap
    .omega
   .rw[bj c ar];exact al c ch (qR c ch H ar)
  .rintro⟨c,ch,aj,_,ap⟩;exact al c ch aj ap
 have Xp: ∀c ch,ah B c=some ch-> ¬M c-> ∀b,F c b->w'.heap[b]? =w.heap[b]? :=fun c ch H ar b O=>
  cz.block b (h.own c ch H b O).1 (by
   rintro⟨gV,cw,aj,ap,bm⟩;exact h.e9 c gV ch cw b H aj (fun e=>ar (e▸ap)) O bm)
 refine⟨⟨?_,?_,?_,?_,?_,?_⟩,H3⟩
 .refine h.fr.trans cz ?_;rintro b O ⟨c,ch,aj,_,ap⟩;rcases(h.own c ch aj b ap).2 with h' |h'
  .exact h'
  .have:=h'.1;omega
 .intro c ch H
  by_cases ar:M c
  .exact new c ch H ar H3
  .have ai:=qR c ch H ar;rw[bj c ar,dl c (fun hn=>ar (lZ c hn))];exact Holds.cg H3 (Xp c ch ai ar) cz.size ch (fun d J=>dl d (named c ch ai ar d J)) (h.holds c ch ai)
 .intro c ch H b O
  by_cases ar:M c
  .obtain⟨E,G⟩:=DX c ch H ar b O;refine⟨E,?_⟩;rcases G with⟨gV,cw,aj,_,ap⟩ |G
   .exact(h.own gV cw aj b ap).2
   .exact .inr (h.fresh G)
  .rw[bj c ar] at O;obtain⟨E,G⟩:=h.own c ch (qR c ch H ar) b O;exact⟨Nat.lt_of_lt_of_le E cz.size,G⟩
 .intro c bX ch ch' b H cF ba O dm
  by_cases ar:M c
  .by_cases bN:M bX
   .exact Xo c bX ch ch' b H cF ar bN ba O dm
   .rw[bj bX bN] at dm;have sX:=qR bX ch' cF bN;rcases(DX c ch H ar b O).2 with⟨gV,cw,aj,bm,ap⟩ |G
    .exact h.e9 gV bX cw ch' b aj sX (fun e=>bN (e▸bm)) ap dm
    .have:=(h.own bX ch' sX b dm).1;omega
  .rw[bj c ar] at O;have ai:=qR c ch H ar
   by_cases bN:M bX
   .rcases(DX bX ch' cF bN b dm).2 with⟨gV,cw,aj,bm,ap⟩ |G
    .exact h.e9 gV c cw ch b aj ai (fun e=>ar (e▸bm)) ap O
    .have:=(h.own c ch ai b O).1;omega
   .rw[bj bX bN] at dm;exact h.e9 c bX ch ch' b ai (qR bX ch' cF bN) ba O dm
 .intro c H;rw[dl c (H2 c H)];exact h.ed c H
 .refine⟨h.kG.1,h.kG.2.1,fun D b9=>?_⟩;obtain⟨g1,g2,cX⟩:=h.kG.2.2 D b9;refine⟨Nat.lt_of_lt_of_le g1 cz.size,(cz.block D g1 ?_).trans g2,cX⟩;rintro⟨c,ch,aj,_,ap⟩;rcases(h.own c ch aj D ap).2 with h' |h'
  .have:=h.kG.2.1 D (.inr h');omega
  .exact h'.2 b9
theorem Mem.below {ids:List Nat} {C:e8} {B:ay} {ρ:Nat->bo} {F:Nat->Nat->Prop} {w w':World} (h:Mem ids C B ρ F w) (O:Below w.heap.size w w'):
  Mem ids C B ρ F w'/\cd (bZ C B F w) w (bZ C B F w') w':=
 h.step (fun _=>False) (fun _=>False) (cJ.mn O) (fun _ _ h _=>h) (fun _ _=>rfl) (fun _ _=>rfl) (fun _ _ h=>h) (fun _ h=>h) (fun _ _ _ _ _ _ h=>h) (fun _ _ _ h=>h.elim) (fun _ _ _ h=>h.elim) (fun _ _ _ _ _ _ _ h=>h.elim)
theorem ee.mono {K:a1} {ρ ρ':Nat->bo} {I I':Nat->Prop} {a:Act} {w w':World} (h:ee K ρ I a w) (V:cd I w I' w') (dl: ∀s c,(dA K s).has c=true->ρ' c=ρ c):ee K ρ' I' a w':=
 fun s=>ct.mono V _ _ (dl s) (h s)
theorem ee.put {K:a1} {ρ:Nat->bo} {I:Nat->Prop} {a:Act} {w:World} (h:ee K ρ I a w) {d:Nat} {v:aQ} {x:Value} (J:d < a.tmps.size) (az:ct ρ I w v x):ee ((d,v)::K) ρ I (a.put (some d) x) w:=fun s=>by
 rw[kc]
 by_cases e:d=s
 .subst e;rw[if_pos rfl,show(a.put (some d) x).tmps.getD d undef=x from Ob J];exact az
 .rw[if_neg e,<-Xn e];exact h s
def ms (d:Option Nat) (v:aQ) (K:a1):a1:=match d with
 |some d=>(d,v)::K
 |none=>K
theorem ee.kg {K:a1} {ρ:Nat->bo} {I:Nat->Prop} {a:Act} {w:World} (h:ee K ρ I a w) {d:Option Nat} {v:aQ} {x:Value} (J: ∀e,d=some e->e < a.tmps.size) (az:ct ρ I w v x):ee (ms d v K) ρ I (a.put d x) w:=by
 cases d with
 |none=>exact h
 |some d=>exact h.put (J d rfl) az
def vq:Value->bC
 | .int k n=>.d (.int k n)
 | .bool b=>.d (.lit b)
 | .string s=>.d (.str s.data.toList)
 | .slice none 0 0=>.dD
 |v=>.bI v
theorem Oc (ρ:Nat->bo) (I:Nat->Prop) (w:World) (v:Value):dS ρ I w (vq v) v:=by
 unfold vq
 split <;>simp[dS,gE]
def DY:Value->aQ
 | .agg cs=>.c (.agg (cs.toList.map vq))
 |v=>.c (.one (vq v))
theorem Od (ρ:Nat->bo) (I:Nat->Prop) (w:World): ∀aD:List Value,b' ρ I w (aD.map vq) aD
 | []=>rfl
 |v::aD=>⟨v,aD,rfl,Oc ρ I w v,Od ρ I w aD⟩
theorem Xq (ρ:Nat->bo) (I:Nat->Prop) (w:World) (v:Value):ct ρ I w (DY v) v:=by
 unfold DY
 split
 .rename_i cs;exact⟨cs.toList,au7,Od ρ I w _⟩
 .exact Oc ρ I w v
def a7 (K:a1):Operand->aQ
 | .tmp t=>dA K t
 | .const v=>DY v
 | .func f=>.c (.one (.cT f []))
 | .global g=>.c (.one (.bI (.pointer (some ⟨g,0,none⟩))))
theorem ee.get {K:a1} {ρ:Nat->bo} {I:Nat->Prop} {a:Act} {w:World} (h:ee K ρ I a w) (x:Operand):ct ρ I w (a7 K x) (a.eval x):=by
 cases x with
 |tmp t=>exact h t
 |const v=>exact Xq ρ I w v
 |func f=>exact⟨[],rfl,rfl⟩
 |global g=>rfl
end
section
def yI (a b:Int):Bool:=decide (a=b)
def yJ (a b:List UInt8):Bool:=decide (a=b)
def fV:(u:bx)->Z u->Z u->Bool
 | .int _,a,b=>yI a b
 | .str,a,b=>yJ a b
 |_,_,_=>false
def b0 {aJ aL:bx}:List (Z aJ×Z aL)->Z aJ->Option (Z aL)
 | [],_=>none
 |p::l,k=>match fV aJ k p.1 with
  |true=>some p.2
  |false=>b0 l k
def dr {aJ aL:bx}:List (Z aJ×Z aL)->Z aJ->Z aL->List (Z aJ×Z aL)
 | [],k,x=>[(k,x)]
 |p::l,k,x=>match fV aJ k p.1 with
  |true=>(k,x)::l
  |false=>p::dr l k x
def gG {aJ aL:bx}:List (Z aJ×Z aL)->Z aJ->List (Z aJ×Z aL)
 | [],_=>[]
 |p::l,k=>match fV aJ k p.1 with
  |true=>l
  |false=>p::gG l k
def mX:bx->TypeDesc->Bool
 | .int k,.int dU=>k == dU
 | .str,.string=>true
 |_,_=>false
section
variable {P:Program} {I:Nat->Prop} {w:World} {aJ aL:bx}
theorem rS {d:TypeDesc} (J:mX aJ d=true) (a:Z aJ):MapKept.IsKey d (gF aJ a):=by
 cases aJ <;>cases d <;>simp[mX] at J
 .subst J;simp[gF,MapKept.IsKey]
 .simp[gF,MapKept.IsKey]
theorem H4 {d:TypeDesc} (J:mX aJ d=true) (a b:Z aJ):gF aJ a=gF aJ b↔fV aJ a b=true:=by
 cases aJ <;>cases d <;>simp[mX] at J
 .have: ∀(k:IntKind) (a b:Int),Value.int k a=Value.int k b↔yI a b=true:=fun k a b=>by simp[yI]
  exact this _ a b
 .have: ∀(a b:List UInt8),Value.string ⟨List.toArray a⟩=Value.string ⟨List.toArray b⟩↔yJ a b=true:=fun a b=>by simp[yJ]
  exact this a b
theorem AZ: ∀{l:List (Z aJ×Z aL)} {es:List MapEntry},ie I w aJ aL l es->es.length=l.length
 | [],_,h=>by rw[show _=[] from h];rfl
 |p::l,_,⟨e,r,h,_,_,al⟩=>by rw[h,as4,as4,AZ al]
theorem A0 {d:TypeDesc} (J:mX aJ d=true) (k:Z aJ): ∀(l:List (Z aJ×Z aL)) (es:List MapEntry) (i:Nat),ie I w aJ aL l es->
  (Instr.findNow d (gF aJ k) es i=some none/\b0 l k=none/\(∀x,dr l k x=l++[(k,x)])/\gG l k=l)\/
  ∃(j:Nat) (x:Z aL) (e:MapEntry),Instr.findNow d (gF aJ k) es i=some (some (i+j,e.val))/\b0 l k=some x/\es[j]? =some e/\e.key=gF aJ k/\jk I w aL x e.val/\(∀y,dr l k y=l.set j (k,y))/\gG l k=l.eraseIdx j
 | [],_,i,h=>by
  rw[show _=[] from h];exact .inl ⟨rfl,rfl,fun _=>rfl,rfl⟩
 |p::l,_,i,⟨e,r,h,E,G,al⟩=>by
  subst h;obtain⟨b,O,qS⟩:=MapKept.sameNow_of_keys (rS J k) (rS J p.1);rw[<-E] at O
  cases ab:fV aJ k p.1 with
  |true=>
   have lr:b=true:=qS.2 ((H4 J k p.1).2 ab);subst lr;refine .inr ⟨0,p.2,e,by simp[Instr.findNow,O],by simp[b0,ab],rfl,by rw[E];exact((H4 J k p.1).2 ab).symm,G,fun y=>by simp[dr,ab],by simp[gG,ab]⟩
  |false=>
   have Xr:b=false:=by
    cases b with
    |false=>rfl
    |true=>have:=(H4 J k p.1).1 (qS.1 rfl);rw[ab] at this;cases this
   subst Xr;rcases A0 J k l r (i+1) al with⟨b4,ci,a3,a4⟩ |⟨j,x,b5,b4,ci,a3,a4,a5,gw,yK⟩
   .exact .inl ⟨by simp[Instr.findNow,O,b4],by simp[b0,ab,ci],fun y=>by simp[dr,ab,a3],by simp[gG,ab,a4]⟩
   .exact .inr ⟨j+1,x,b5,by simp[Instr.findNow,O,b4];omega,by simp[b0,ab,ci],by simpa using a3,a4,a5,fun y=>by simp[dr,ab,gw],by simp[gG,ab,yK]⟩
theorem Oe {t kt et:TypeId} {d:TypeDesc} (cr:P.underlying t=some (.map kt et)) (ab:P.underlying kt=some d) (J:mX aJ d=true) {b:Nat} {bT:List MapEntry} {bU:Nat} (O:w.heap[b]? =some (.map (List.toArray bT) bU))
  {l:List (Z aJ×Z aL)} (aA:ie I w aJ aL l bT) {aB:Value} (aR:(zeroValue et).run P w= .ok aB w) (yL:jk I w aL (cK aL) aB) (k:Z aJ) (c:Bool):
  ∃v,(Instr.lookup t (.map (some b)) (gF aJ k) c).run P w= .ok (if c then .tuple #[v,.bool (b0 l k).isSome] else v) w/\jk I w aL ((b0 l k).getD (cK aL)) v:=by
 have H:=fun e=>MapKept.run_checkKey (P:=P) (w:=w) ab (rS J k) e 9999
 rcases A0 (I:=I) (w:=w) J k l bT 0 aA with⟨b4,ci,_⟩ |⟨j,x,e,b4,ci,_,_,a5,_⟩
 .refine⟨aB,?_,by rw[ci];exact yL⟩;have hf:=MapKept.run_findKey (P:=P) (w:=w) ab b4;rw[ci];simp[Instr.lookup,run_underlying cr,MapKept.run_getObj_map O,H,hf,aR,Result.andThen]
 .refine⟨e.val,?_,by rw[ci];exact a5⟩;have hf:=MapKept.run_findKey (P:=P) (w:=w) ab b4;rw[ci];simp[Instr.lookup,run_underlying cr,MapKept.run_getObj_map O,H,hf,Result.andThen]
theorem Of: ∀{l:List (Z aJ×Z aL)} {es:List MapEntry},ie I w aJ aL l es-> ∀{k:Z aJ} {x:Z aL} {e:MapEntry},e.key=gF aJ k->jk I w aL x e.val->ie I w aJ aL (l++[(k,x)]) (es++[e])
 | [],_,h,k,x,e,E,G=>by rw[show _=[] from h];exact⟨e,[],rfl,E,G,rfl⟩
 |p::l,_,⟨b5,r,h,b4,ci,a3⟩,k,x,e,E,G=>by rw[h];exact⟨b5,r++[e],rfl,b4,ci,Of a3 E G⟩
theorem Og: ∀{l:List (Z aJ×Z aL)} {es:List MapEntry},ie I w aJ aL l es-> ∀{k:Z aJ} {x:Z aL} {e:MapEntry} (j:Nat),e.key=gF aJ k->jk I w aL x e.val->ie I w aJ aL (l.set j (k,x)) (es.set j e)
 | [],_,h,k,x,e,j,E,G=>by rw[show _=[] from h];rfl
 |p::l,_,⟨b5,r,h,b4,ci,a3⟩,k,x,e,0,E,G=>by rw[h];exact⟨e,r,rfl,E,G,a3⟩
 |p::l,_,⟨b5,r,h,b4,ci,a3⟩,k,x,e,j+1,E,G=>by rw[h];exact⟨b5,r.set j e,rfl,b4,ci,Og a3 j E G⟩
theorem Oh: ∀{l:List (Z aJ×Z aL)} {es:List MapEntry},ie I w aJ aL l es-> ∀(j:Nat),ie I w aJ aL (l.eraseIdx j) (es.eraseIdx j)
 | [],_,h,j=>by rw[show _=[] from h];rfl
 |p::l,_,⟨b5,r,h,b4,ci,a3⟩,0=>by rw[h];exact a3
 |p::l,_,⟨b5,r,h,b4,ci,a3⟩,j+1=>by rw[h];exact⟨b5,r.eraseIdx j,rfl,b4,ci,Oh a3 j⟩
theorem Oi {es:List MapEntry} {c:Nat} (h:lX es c) (key val:Value):lX (es++[⟨key,val,c⟩]) (c+1):=by
 refine⟨?_,fun e V=>?_⟩
 .rw[as3,List.pairwise_append];refine⟨h.1,au7,fun a ha b O=>?_⟩;obtain⟨e,V,rfl⟩:=ar2.1 ha;simp only[aq4,au0,aq0] at O;subst O;exact h.2 e V
 .rcases aq8.1 V with V |V
  .have:=h.2 e V;omega
  .simp only[aq0] at V;subst V;simp
theorem Xs {es:List MapEntry} {c:Nat} (h:lX es c) {j:Nat} {bG e:MapEntry} (aa:es[j]? =some bG) (O:e.born=bG.born):lX (es.set j e) c:=by
 have aA:(es.set j e).map (·.born)=es.map (·.born):=by
  rw[List.map_set];refine List.ext_getElem? fun i=>?_
  rw[List.getElem?_set]
  split
  .rename_i aI;subst aI;have:=(ap5.1 aa).1;rw[if_pos (by simpa using this),ar0,aa,O];rfl
  .rfl
 refine⟨by rw[aA];exact h.1,fun x hx=>?_⟩;have E:x.born∈(es.set j e).map (·.born):=aq6 hx;rw[aA] at E;obtain⟨y,aC,Xt⟩:=ar2.1 E;rw[<-Xt];exact h.2 y aC
theorem Xu {es:List MapEntry} {c:Nat} (h:lX es c) (j:Nat):lX (es.eraseIdx j) c:=
 ⟨h.1.sublist ((List.eraseIdx_sublist es j).map _),fun e V=>h.2 e ((List.eraseIdx_sublist es j).subset V)⟩
theorem Xv (a:Z aJ) {d:TypeDesc} (J:mX aJ d=true) (n:Nat):Instr.sameBits (n+1) (gF aJ a) (gF aJ a)=true:=by
 cases aJ <;>cases d <;>simp[mX] at J
 .have: ∀(k:IntKind) (a:Int),Instr.sameBits (n+1) (.int k a) (.int k a)=true:=fun k a=>by simp[Instr.sameBits]
  exact this _ a
 .simp only[gF,Instr.sameBits];exact(MapKept.bytes_beq _ _).2 rfl
theorem A1 {t kt et:TypeId} {d:TypeDesc} (cr:P.underlying t=some (.map kt et)) (ab:P.underlying kt=some d) (J:mX aJ d=true) {b:Nat} {bT:List MapEntry} {bU:Nat} (O:w.heap[b]? =some (.map (List.toArray bT) bU))
  {l:List (Z aJ×Z aL)} (aA:ie I w aJ aL l bT) (c':lX bT bU) (k:Z aJ) {x:Z aL} {v:Value} (az:jk I w aL x v):
  ∃ek jE,(Instr.mapUpdate t (.map (some b)) (gF aJ k) v).run P w= .ok () {w with heap:=w.heap.setIfInBounds b (.map (List.toArray ek) jE)}/\ie I w aJ aL (dr l k x) ek/\lX ek jE:=by
 have H:=fun e=>MapKept.run_checkKey (P:=P) (w:=w) ab (rS J k) e 9999
 have eu:=fun o=>MapKept.run_setObj_map (P:=P) o O
 rcases A0 (I:=I) (w:=w) J k l bT 0 aA with⟨b4,ci,a3,_⟩ |⟨j,y,e,b4,ci,a3,a4,a5,gw,_⟩
 .have hf:=MapKept.run_findKey (P:=P) (w:=w) ab b4;refine⟨bT++[⟨gF aJ k,v,bU⟩],bU+1,?_,by rw[a3];exact Of aA rfl az,Oi c' _ _⟩;simp[Instr.mapUpdate,run_underlying cr,MapKept.run_getObj_map O,H,hf,eu,Result.andThen]
 .have hf:=MapKept.run_findKey (P:=P) (w:=w) ab b4;have rR:=(ap5.1 a3).1;refine⟨bT.set j ⟨gF aJ k,v,e.born⟩,bU,?_,by rw[gw];exact Og aA j rfl az,Xs c' a3 rfl⟩
  have Oj:bT.modify j (fun b5=>{b5 with key:=gF aJ k,val:=v})=bT.set j ⟨gF aJ k,v,e.born⟩:=by
   refine List.ext_getElem? fun i=>?_
   rw[List.getElem?_modify,List.getElem?_set]
   by_cases gH:j=i
   .subst gH;have V:=(ap5.1 a3).2;simp[rR,V]
   .simp[gH]
  simp[Instr.mapUpdate,run_underlying cr,MapKept.run_getObj_map O,H,hf,eu,Result.andThen,a3,a4,Instr.keyThatStays,Xv k J,Oj]
theorem Ok {t kt et ty:TypeId} {d:TypeDesc} (cr:P.underlying t=some (.map kt et)) (ab:P.underlying kt=some d) (J:mX aJ d=true) {b:Nat} {bT:List MapEntry} {bU:Nat} (O:w.heap[b]? =some (.map (List.toArray bT) bU))
  {l:List (Z aJ×Z aL)} (aA:ie I w aJ aL l bT) (c':lX bT bU) (k:Z aJ) (Xw:TypeId):
  ∃ek,(Builtin.delete_ #[t,Xw] ty #[.map (some b),gF aJ k]).run P w= .ok (.tuple #[]) {w with heap:=w.heap.setIfInBounds b (.map (List.toArray ek) bU)}/\ie I w aJ aL (gG l k) ek/\lX ek bU:=by
 have H:=fun e=>MapKept.run_checkKey (P:=P) (w:=w) ab (rS J k) e 9999
 have eu:=fun o=>MapKept.run_setObj_map (P:=P) o O
 rcases A0 (I:=I) (w:=w) J k l bT 0 aA with⟨b4,ci,_,a3⟩ |⟨j,y,e,b4,ci,a3,a4,a5,_,gw⟩
 .have hf:=MapKept.run_findKey (P:=P) (w:=w) ab b4;refine⟨bT,?_,by rw[a3];exact aA,c'⟩;simp[Builtin.delete_,run_underlying cr,MapKept.run_getObj_map O,H,hf,eu,Result.andThen]
 .have hf:=MapKept.run_findKey (P:=P) (w:=w) ab b4;have rR:=(ap5.1 a3).1;refine⟨bT.eraseIdx j,?_,by rw[gw];exact Oh aA j,Xu c' j⟩
  have Xx:(List.toArray bT).eraseIdxIfInBounds j=List.toArray (bT.eraseIdx j):=by
   apply Array.ext';unfold Array.eraseIdxIfInBounds;rw[dif_pos (by simpa using rR)];simp
  simp[Builtin.delete_,run_underlying cr,MapKept.run_getObj_map O,H,hf,eu,Result.andThen,Xx]
theorem Xy {t:TypeId}:(Instr.makeMap t none).run P w= .ok (.map (some w.heap.size)) (w.alloc (.map #[] 0)):=by
 simp only[Instr.makeMap,Sem.run_bind,run_newObj_alloc,Result.andThen,Sem.run_pure]
end
end
end Go.Proofs.YthnboghbhgapcaaGreat
