/-
A part of the proof of this claim: lemmas, with no condition beyond what each says.
-/
import Derived.WalkKit
import Derived.WalkSpells
import Derived.WalkLawsBesides
import Derived.BigQuiet
import Derived.Deep.QuietTactic
import Derived.Deep.RegionHeld3
import Derived.Deep.AppendLies
import Derived.Deep.DrawnRows
import Derived.Maps.AppendAt
import Derived.Laws.CopyOwn
import Derived.Lib.ConvBytes
import Derived.Lib.Hide
import Derived.RangeFuncRecord
import Derived.OrdersIn
import Derived.TacticsIn
import Derived.Sort.LoopGhostIn
import Derived.MapKept
import Derived.ChangeMaps4
set_option linter.unusedVariables false
set_option linter.unusedSimpArgs false
set_option maxRecDepth 10000
set_option maxHeartbeats 4000000
namespace Go.Proofs.YthnboghbhgapcaaGreat
abbrev gd:=@of_decide_eq_true
abbrev mu:=@of_decide_eq_false
abbrev oj:=@List.getElem?_eq_getElem
abbrev vj:=@Bool.and_eq_true
abbrev ap0:=@Nat.le_refl
abbrev ap1:=@List.length_append
abbrev ap2:=@List.mem_cons_of_mem
abbrev ap3:=@List.mem_cons
abbrev ap4:=@Option.some.injEq
abbrev ap5:=@List.getElem?_eq_some_iff
abbrev ap6:=@Nat.eq_of_beq_eq_true
abbrev ap7:=@Nat.zero_le
abbrev ap8:=@List.length_take
abbrev ap9:=@List.getD_eq_getElem?_getD
abbrev aq0:=@List.mem_cons_self
abbrev aq1:=@decide_eq_true
abbrev aq2:=@List.mem_singleton
abbrev aq3:=@List.length_map
abbrev aq4:=@List.map_cons
abbrev aq5:=@List.getElem?_cons_zero
abbrev aq6:=@List.mem_map_of_mem
abbrev aq7:=@List.nodup_cons
abbrev aq8:=@List.mem_append
abbrev aq9:=@List.take_length
abbrev ar0:=@List.getElem?_map
abbrev ar1:=@List.map_congr_left
abbrev ar2:=@List.mem_map
abbrev ar3:=@List.getElem_mem
abbrev ar4:=@List.all_eq_true
abbrev ar5:=@decide_eq_true_eq
abbrev ar6:=@List.contains_iff_mem
abbrev ar7:=@List.getElem?_append_left
abbrev ar8:=@decide_eq_false
abbrev ar9:=@List.getElem?_append_right
abbrev as0:=@Option.map_eq_some_iff
abbrev as1:=@List.take_succ_eq_append_getElem
abbrev as2:=@List.map_map
abbrev as3:=@List.map_append
abbrev as4:=@List.length_replicate
abbrev as5:=@List.length_cons
abbrev as6:=@List.append_nil
abbrev as7:=@Option.isSome_iff_exists
abbrev as8:=@List.append_assoc
abbrev as9:=@Nat.le_trans
abbrev at0:=@List.nodup_nil
abbrev at1:=@List.length_drop
abbrev at2:=@Option.map_some
abbrev at3:=@Prod.mk.injEq
abbrev at4:=@Bool.eq_false_iff
abbrev at5:=@List.mem_filter
abbrev at6:=@List.getElem?_eq_none
abbrev at7:=@List.flatMap_cons
abbrev at8:=@List.mem_of_find?_eq_some
abbrev at9:=@List.foldl_append
abbrev au0:=@List.map_nil
abbrev au1:=@Option.isNone_iff_eq_none
abbrev au2:=@List.getElem?_cons_succ
abbrev au3:=@Nat.not_lt_zero
abbrev au4:=@Int.ediv_nonneg
theorem au5 {p:Prop} (h:p:=by omega):p:=h
theorem au6 {p:Prop} (h:p:=by decide):p:=h
theorem au7 {p:Prop} (h:p:=by simp):p:=h
theorem au8 {p:Prop} (h:p:=by kernel_rfl):p:=h
theorem au9 {p:Prop} (h:p:=by rfl):p:=h
theorem av1 {p:Prop} (h:p:=by assumption):p:=h
theorem av2 {p:Prop} (h:p:=by rw[ah];simp[Op.operands]):p:=h
theorem av3 {p:Prop} (h:p:=by omega):p:=h
theorem av4 {p:Prop} (h:p:=by simpa using h):p:=h
theorem av5 {p:Prop} (h:p:=by cases h):p:=h
theorem av6 {p:Prop} (h:p:=by rw[ah];simp[Op.operands,Call.operands]):p:=h
theorem av7 {p:Prop} (h:p:=by rw[gc];decide):p:=h
theorem av8 {p:Prop} (h:p:=by exact aA):p:=h
theorem av9 {p:Prop} (h:p:=by simp;omega):p:=h
theorem aw0 {p:Prop} (h:p:=by rw[h'];intro h;cases h):p:=h
theorem aw1 {p:Prop} (h:p:=by rw[ca,if_pos rfl]):p:=h
theorem aw2 {p:Prop} (h:p:=by rw[hx];intro h;cases h):p:=h
theorem aw3 {p:Prop} (h:p:=by have:=mu H;omega):p:=h
theorem aw4 {p:Prop} (h:p:=by simpa using Z):p:=h
theorem aw5 {p:Prop} (h:p:=by rw[ap8];omega):p:=h
theorem aw6 {p:Prop} (h:p:=by simpa using ay):p:=h
theorem aw7 {p:Prop} (h:p:=by have:=gd H;omega):p:=h
theorem aw8 {p:Prop} (h:p:=by simp[bC.has,Nat.beq_eq]):p:=h
theorem aw9 {p:Prop} (h:p:=by simp only[maxLen];omega):p:=h
theorem ax0 {p:Prop} (h:p:=by rw[cM];omega):p:=h
theorem ax1 {p:Prop} (h:p:=by exact nY hx):p:=h
theorem ax2 {p:Prop} (h:p:=by simp[aQ] at Z;exact Z):p:=h
theorem ax3 {p:Prop} (h:p:=by simp only[execOp,ah,Sem.run_bind,ai,ao,aF,Result.andThen_ok,Sem.run_pure]):p:=h
theorem ax4 {p:Prop} (h:p:=by rw[BitVec.toNat_ofInt];omega):p:=h
theorem ax5 {p:Prop} (h:p:=by simp at h;omega):p:=h
theorem ax6 {p:Prop} (h:p:=by rw[jO,av];rfl):p:=h
theorem ax7 {p:Prop} (h:p:=by simpa using hx):p:=h
theorem ax8 {p:Prop} (h:p:=by unfold cO;rw[J]):p:=h
theorem ax9 {p:Prop} (h:p:=by simpa using E):p:=h
theorem ay0 {p:Prop} (h:p:=by simp[V]):p:=h
theorem ay1 {p:Prop} (h:p:=by rw[h.fH.eV];exact H):p:=h
theorem ay2 {p:Prop} (h:p:=by simpa using al):p:=h
theorem ay3 {p:Prop} (h:p:=by rw[ai];generalize 2 ^z=P at*;omega):p:=h
abbrev ay4:=List UInt8
abbrev ay5:=List Nat
end Go.Proofs.YthnboghbhgapcaaGreat
namespace Go.Proofs.YthnboghbhgapcaaGreat
open Go.RowKit Go.Proofs
section
structure cK (S:Nat->Prop) (w w':World):Prop where
 os:w'.os=w.os
 tape:w'.tape=w.tape
 output:w'.output=w.output
 size:w.heap.size<=w'.heap.size
 block: ∀k,k < w.heap.size-> ¬S k->w'.heap[k]? =w.heap[k]?
theorem cK.refl (S:Nat->Prop) (w:World):cK S w w:=⟨rfl,rfl,rfl,ap0 _,fun _ _ _=>rfl⟩
theorem cK.trans {S:Nat->Prop} {a b c:World} (h:cK S a b) {S':Nat->Prop} (k:cK S' b c) (ax: ∀i,i < a.heap.size->S' i->S i):cK S a c:=
 ⟨k.os.trans h.os,k.tape.trans h.tape,k.output.trans h.output,as9 h.size k.size,
  fun i aH hn=>(k.block i (Nat.lt_of_lt_of_le aH h.size) (fun x=>hn (ax i aH x))).trans (h.block i aH hn)⟩
theorem cK.mono {S S':Nat->Prop} {w w':World} (h:cK S w w') (ax: ∀i,i < w.heap.size->S i->S' i):cK S' w w':=
 ⟨h.os,h.tape,h.output,h.size,fun i aH hn=>h.block i aH (fun x=>hn (ax i aH x))⟩
theorem cK.mo {S:Nat->Prop} {w w':World} (h:Below w.heap.size w w'):cK S w w':=
 ⟨h.os,h.tape,h.output,h.size,fun i aH _=>h.block i aH⟩
theorem cK.below {S:Nat->Prop} {B:Nat} {w w':World} (h:cK S w w') (da:B<=w.heap.size) (ax: ∀i,i < B-> ¬S i):Below B w w':=
 ⟨h.os,h.tape,h.output,h.size,fun i aH=>h.block i au5 (ax i aH)⟩
theorem cK.cell {S:Nat->Prop} {w w':World} (h:cK S w w') {p:Addr} {v:Value} (af:w.cell? p=some v) (ax: ¬S p.block):w'.cell? p=some v:=
 (World.cell?_of_block (h.block p.block (World.block_lt_of_cell? w p af) ax)).trans af
theorem k1 {w:World} {b:Nat} {o:Obj} (h:w.heap[b]? =some o):b < w.heap.size:=by
 rcases Nat.lt_or_ge b w.heap.size with bw |vx
 .exact bw
 .rw[Array.getElem?_eq_none vx] at h;cases h
def eN (D:Nat->Prop) (w:World) (size:Nat) (v:Value) (n:Nat) (xs:List Value):Prop:=
 xs.length=n*size/\ ∃A c,v= .slice A n c/\n<=c/\c<=maxLen/\
  (0 < n-> ∃b o,A=some ⟨b,o,none⟩/\D b/\b < w.heap.size/\ ∀j u,xs[j]? =some u->w.cell? ⟨b,o+j,none⟩=some u)
def kF (D:Nat->Prop) (w w':World):Prop:= ∀i,i < w.heap.size->D i->w'.heap[i]? =w.heap[i]?
theorem kF.refl (D:Nat->Prop) (w:World):kF D w w:=fun _ _ _=>rfl
theorem kF.cell {D:Nat->Prop} {w w':World} (h:kF D w w') {p:Addr} {v:Value} (af:w.cell? p=some v) (ax:D p.block):w'.cell? p=some v:=
 (World.cell?_of_block (h p.block (World.block_lt_of_cell? w p af) ax)).trans af
theorem kF.mo {D:Nat->Prop} {w w':World} (h:Below w.heap.size w w'):kF D w w':=fun i aH _=>h.block i aH
theorem eN.mono {D jU:Nat->Prop} {w w':World} {size n:Nat} {v:Value} {xs:List Value} (h:eN D w size v n xs) (ab:kF D w w') (hw:w.heap.size<=w'.heap.size) (J: ∀i,i < w.heap.size->D i->jU i):eN jU w' size v n xs:=by
 obtain⟨al,A,c,rfl,E,G,aj⟩:=h;refine⟨al,A,c,rfl,E,G,fun hn=>?_⟩;obtain⟨b,o,rfl,b9,O,H⟩:=aj hn;exact⟨b,o,rfl,J b O b9,au5,fun j u Z=>ab.cell (H j u Z) b9⟩
theorem eN.nil (D:Nat->Prop) (w:World) (size:Nat):eN D w size (.slice none 0 0) 0 []:=⟨au7,none,0,rfl,ap0 _,au6,fun h=>absurd h au5⟩
theorem eN.at_ {D:Nat->Prop} {w:World} {size n:Nat} {v:Value} {xs:List Value} (h:eN D w size v n xs) (hn:0 < n):
  ∃b o c,v= .slice (some ⟨b,o,none⟩) n c/\n<=c/\c<=maxLen/\D b/\b < w.heap.size/\ ∀j u,xs[j]? =some u->w.cell? ⟨b,o+j,none⟩=some u:=by
 obtain⟨al,A,c,rfl,E,G,aj⟩:=h;obtain⟨b,o,rfl,b9,O,H⟩:=aj hn;exact⟨b,o,c,rfl,E,G,b9,O,H⟩
def hZ (c:UInt8):Value:=.int .u8 c.toNat
def kG (D:Nat->Prop) (w:World) (v:Value) (l:ay4):Prop:=eN D w 1 v l.length (l.map hZ)
theorem kG.mono {D jU:Nat->Prop} {w w':World} {v:Value} {l:ay4} (h:kG D w v l) (ab:kF D w w') (hw:w.heap.size<=w'.heap.size) (J: ∀i,i < w.heap.size->D i->jU i):kG jU w' v l:=eN.mono h ab hw J
def iS {α:Type} (R:World->α->List Value->Prop) (w:World):List α->List Value->Prop
 | [],xs=>xs=[]
 |a::l,xs=> ∃c r,xs=c++r/\R w a c/\iS R w l r
theorem iS.mono {α:Type} {R R':World->α->List Value->Prop} {w w':World} (h: ∀a c,R w a c->R' w' a c): ∀(l:List α) (xs:List Value),iS R w l xs->iS R' w' l xs
 | [],_,hx=>hx
 |_::l,_,⟨c,r,hx,H,aF⟩=>⟨c,r,hx,h _ _ H,iS.mono h l r aF⟩
theorem iS.qP {α:Type} {R:World->α->List Value->Prop} {w:World} {a:α} {c:List Value} (H:R w a c): ∀(l:List α) (xs:List Value),iS R w l xs->iS R w (l++[a]) (xs++c)
 | [],xs,hx=>⟨c,[],by cases hx;simp,H,rfl⟩
 |_::l,_,⟨bX,r,hx,cF,aF⟩=>⟨bX,r++c,by rw[hx,as8],cF,iS.qP H l r aF⟩
theorem iS.get {α:Type} {R:World->α->List Value->Prop} {w:World} {s:Nat} (ax: ∀a c,R w a c->c.length=s): ∀(l:List α) (xs:List Value),iS R w l xs-> ∀(k:Nat) (ab:k < l.length),
  ∃c,R w l[k] c/\ ∀j,j < s->xs[k*s+j]? =c[j]?
 |a::l,_,⟨c,r,hx,H,aF⟩,0,_=>⟨c,H,fun j Z=>by rw[hx,Nat.zero_mul,Nat.zero_add,ar7 (by rw[ax _ _ H];exact Z)]⟩
 |a::l,_,⟨c,r,hx,H,aF⟩,k+1,ab=>by
  obtain⟨bX,cF,Z⟩:=iS.get ax l r aF k (by simpa using ab);refine⟨bX,cF,fun j h=>?_⟩;have:=ax _ _ H;rw[hx,ar9 (by rw[this,Nat.add_mul];omega),<-Z j h]
  congr 1
  rw[this,Nat.add_mul];omega
theorem iS.length {α:Type} {R:World->α->List Value->Prop} {w:World} {s:Nat} (ax: ∀a c,R w a c->c.length=s): ∀(l:List α) (xs:List Value),iS R w l xs->xs.length=l.length*s
 | [],xs,hx=>by cases hx;simp
 |a::l,_,⟨c,r,hx,H,aF⟩=>by rw[hx,ap1,ax _ _ H,iS.length ax l r aF,as5,Nat.add_mul];omega
structure lY where
 C:Int
 B:ay4
structure H8 where
 name:ByteArray
 Xn:ByteArray
 bits:Int
 size:Int
 N7:List lY
def sZ (D:Nat->Prop) (w:World) (p:lY) (c:List Value):Prop:= ∃bv,c=[.int .i64 p.C,bv]/\kG D w bv p.B
def pk (D:Nat->Prop) (w:World) (v:Value) (l:List lY):Prop:= ∃xs,eN D w 2 v l.length xs/\iS (sZ D) w l xs
def AZ (D:Nat->Prop) (w:World) (b:H8) (c:List Value):Prop:=
 ∃pv,c=[.string b.name,.string b.Xn,.int .i64 b.bits,.int .i64 b.size,pv]/\pk D w pv b.N7
theorem sZ.mono {D jU:Nat->Prop} {w w':World} (ab:kF D w w') (hw:w.heap.size<=w'.heap.size) (J: ∀i,i < w.heap.size->D i->jU i) (p:lY) (c:List Value) (h:sZ D w p c):sZ jU w' p c:=by
 obtain⟨bv,H,O⟩:=h;exact⟨bv,H,O.mono ab hw J⟩
theorem pk.mono {D jU:Nat->Prop} {w w':World} {v:Value} {l:List lY} (h:pk D w v l) (ab:kF D w w') (hw:w.heap.size<=w'.heap.size) (J: ∀i,i < w.heap.size->D i->jU i):pk jU w' v l:=by
 obtain⟨xs,E,G⟩:=h;exact⟨xs,E.mono ab hw J,iS.mono (sZ.mono ab hw J) l xs G⟩
theorem AZ.mono {D jU:Nat->Prop} {w w':World} (ab:kF D w w') (hw:w.heap.size<=w'.heap.size) (J: ∀i,i < w.heap.size->D i->jU i) (b:H8) (c:List Value) (h:AZ D w b c):AZ jU w' b c:=by
 obtain⟨pv,H,af⟩:=h;exact⟨pv,H,af.mono ab hw J⟩
theorem sZ.len {D:Nat->Prop} {w:World} (p:lY) (c:List Value) (h:sZ D w p c):c.length=2:=by obtain⟨bv,rfl,_⟩:=h;rfl
theorem AZ.len {D:Nat->Prop} {w:World} (b:H8) (c:List Value) (h:AZ D w b c):c.length=5:=by obtain⟨pv,rfl,_⟩:=h;rfl
theorem pk.at_ {D:Nat->Prop} {w:World} {A:Option Addr} {n c:Nat} {l:List lY} (h:pk D w (.slice A n c) l) {k:Nat} (ab:k < n):
  n=l.length/\ ∃b o bv,∃A0:k < l.length,A=some ⟨b,o,none⟩/\D b/\b < w.heap.size/\w.cell? ⟨b,o+k*2,none⟩=some (.int .i64 (l[k]'A0).C)/\w.cell? ⟨b,o+k*2+1,none⟩=some bv/\kG D w bv (l[k]'A0).B:=by
 obtain⟨xs,⟨al,A',bX,V,_,_,aj⟩,aF⟩:=h;injection V with ai ao bl
 subst ai ao bl;obtain⟨b,o,rfl,b9,O,H⟩:=aj au5;obtain⟨cs,⟨bv,rfl,da⟩,Z⟩:=iS.get sZ.len l xs aF k ab;refine⟨rfl,b,o,bv,ab,rfl,b9,O,?_,?_,da⟩
 .exact H (k*2) _ (by simpa using Z 0 au5)
 .have:=H (k*2+1) _ (by simpa using Z 1 au5);simpa[Nat.add_assoc] using this
theorem pk.form {D:Nat->Prop} {w:World} {v:Value} {l:List lY} (h:pk D w v l): ∃A c,v= .slice A l.length c/\l.length<=c/\c<=maxLen:=by
 obtain⟨xs,⟨_,A,c,rfl,E,G,_⟩,_⟩:=h;exact⟨A,c,rfl,E,G⟩
theorem kG.form {D:Nat->Prop} {w:World} {v:Value} {l:ay4} (h:kG D w v l): ∃A c,v= .slice A l.length c/\l.length<=c/\c<=maxLen:=by
 obtain⟨_,A,c,rfl,E,G,_⟩:=h;exact⟨A,c,rfl,E,G⟩
theorem p1 (b o j:Nat):(⟨b,o,none⟩:Addr).add j=⟨b,o+j,none⟩:=by
 unfold Addr.add
 split
 .rename_i h;subst h;rfl
 .rfl
theorem Xo {P:Program} (w:World) (base:Nat) (t ty e:TypeId) (i:TypeInfo) (size:Nat) (cq:P.underlying t=some (.slice e)) (aH:P.info? e=some i)
  (v:Value) (n:Nat) (xs:List Value) (du:w.ownsRow base e size v n xs) (c:Nat):(Builtin.append_ #[t,t] ty #[v,.slice none 0 c]).run P w= .ok v w:=by
 rcases du.2 with⟨rfl,rfl⟩ |⟨g,cap,c9,rfl,_,_,D0,_⟩
 .simp[Builtin.append_,run_underlying cq,sizeOf,typeInfo,aH,Builtin.lenOf,Builtin.firstCells]
 .simp[Builtin.append_,run_underlying cq,sizeOf,typeInfo,aH,Builtin.lenOf,Builtin.firstCells,D0,storeCells]
theorem H9 {P:Program} (w:World) (base:Nat) (t ty e:TypeId) (i:TypeInfo) (aC:Value) (size bytes:Nat) (cq:P.underlying t=some (.slice e)) (aH:P.info? e=some i) (aR:i.zero=some aC)
  (yO:i.size=size) (tW:i.bytes=bytes) (nz:aC.cells.size=size) (cM:0 < size)
  (v:Value) (n:Nat) (xs:List Value) (du:w.ownsRow base e size v n xs)
  (D:Nat->Prop) (h0:Value) (m:Nat) (eR:List Value) (aF:eN D w size h0 m eR) (E: ∀u∈eR,u.oneCell'=true)
  (A1:n+m<=maxLen) (A2:(n+m)*bytes<=140737488355328) (A3:base<=w.heap.size):
  ∃cW w',(Builtin.append_ #[t,t] ty #[v,h0]).run P w= .ok cW w'/\w'.ownsRow base e size cW (n+m) (xs++eR)/\w.grownBy w' v.ownBlock/\
   (cW.ownBlock=v.ownBlock\/cW.ownBlock=some w.heap.size):=by
 obtain⟨al,A,c,rfl,_,_,aj⟩:=aF;rcases A with _ |ad
 .have az:m=0:=by
   rcases Nat.eq_zero_or_pos m with av |av
   .exact av
   .obtain⟨b,o,h,_⟩:=aj av
    cases h
  subst az;have hn:eR=[]:=List.eq_nil_of_length_eq_zero ay2;subst hn;exact⟨v,w,Xo w base t ty e i size cq aH v n xs du c,by simpa using du,World.grownBy.refl w _,.inl rfl⟩
 .have wX: ∀j u,eR[j]? =some u->w.cell? (ad.add j)=some u:=by
   intro j u a7;rcases Nat.eq_zero_or_pos m with av |av
   .subst av;have hn:eR=[]:=List.eq_nil_of_length_eq_zero ay2;subst hn;simp at a7
   .obtain⟨b,o,h,_,_,H⟩:=aj av;injection h with h
    subst h;rw[p1];exact H j u a7
  obtain⟨cW,w',dO,G,aX,_,bH⟩:=run_append_own_at (P:=P) w base t ty e i aC size bytes cq aH aR yO tW nz cM v n xs du ad m c eR al wX E A1 A2 A3;exact⟨cW,w',dO,G,aX,bH⟩
theorem Xp {P:Program} (w:World) {o:Oper} {a:Act} {K:Act->World->Prop} {Q:Exit->Act->World->Prop} (s x:Operand) (t:TypeId)
  (ah:o.op= .call {callee:=.builtin .append,args:= #[s,x],argTypes:= #[t,t]})
  (base:Nat) (e:TypeId) (aC:Value) (size bytes:Nat) (cq:P.underlying t=some (.slice e)) (p2:(P.info? e).map (fun i=>(i.zero,i.size,i.bytes))=some (some aC,size,bytes)) (nz:aC.cells.size=size) (cM:0 < size)
  (v:Value) (n:Nat) (xs:List Value) (ax:a.eval s=v) (du:w.ownsRow base e size v n xs)
  (D:Nat->Prop) (h0:Value) (m:Nat) (eR:List Value) (hx:a.eval x=h0) (aF:eN D w size h0 m eR) (E: ∀u∈eR,u.oneCell'=true)
  (A1:n+m<=maxLen) (A2:(n+m)*bytes<=140737488355328) (A3:base<=w.heap.size)
  (h: ∀cW w',w'.ownsRow base e size cW (n+m) (xs++eR)->w.grownBy w' v.ownBlock->(cW.ownBlock=v.ownBlock\/cW.ownBlock=some w.heap.size)->K (a.put o.dst cW) w'):o.wp P a w K Q:=by
 obtain⟨i,aH,aR,yO,tW⟩:=info_parts p2;obtain⟨cW,w',dO,G,aj,aX⟩:=H9 (P:=P) w base t o.type e i aC size bytes cq aH aR yO tW nz cM v n xs du D h0 m eR aF E A1 A2 A3;unfold Oper.wp execOp;simp only[ah,resolve,invoke,builtin,Sem.run_bind,Sem.run_pure,Result.andThen_ok,List.map_toArray,aq4,au0,ax,hx,dO];exact h cW w' G aj aX
theorem N8 {P:Program} (w:World) {c':Array Oper} {rest:List Oper} {o:Oper} {a:Act} {Q:Exit->Act->World->Prop} (tX:o.guard=none) (s x:Operand) (t:TypeId)
  (ah:o.op= .call {callee:=.builtin .append,args:= #[s,x],argTypes:= #[t,t]})
  (base:Nat) (e:TypeId) (aC:Value) (size bytes:Nat) (cq:P.underlying t=some (.slice e)) (p2:(P.info? e).map (fun i=>(i.zero,i.size,i.bytes))=some (some aC,size,bytes)) (nz:aC.cells.size=size) (cM:0 < size)
  (v:Value) (n:Nat) (xs:List Value) (ax:a.eval s=v) (du:w.ownsRow base e size v n xs)
  (D:Nat->Prop) (h0:Value) (m:Nat) (eR:List Value) (hx:a.eval x=h0) (aF:eN D w size h0 m eR) (E: ∀u∈eR,u.oneCell'=true)
  (A1:n+m<=maxLen) (A2:(n+m)*bytes<=140737488355328) (A3:base<=w.heap.size)
  (h: ∀cW w',w'.ownsRow base e size cW (n+m) (xs++eR)->w.grownBy w' v.ownBlock->(cW.ownBlock=v.ownBlock\/cW.ownBlock=some w.heap.size)->wpList P c' Q rest (a.put o.dst cW) w'):wpList P c' Q (o::rest) a w:=
 wpList_plain tX fun _ di=>Xp w s x t ah base e aC size bytes cq p2 nz cM v n xs ax du D h0 m eR hx aF E A1 A2 A3 fun cW w' G aj aX=>di _ _ (h cW w' G aj aX)
theorem N9 (l:ay4): ∀u∈l.map hZ,u.oneCell'=true:=by
 intro u a7;obtain⟨c,_,rfl⟩:=ar2.1 a7;rfl
theorem eN.qQ {w:World} {base:Nat} {e:TypeId} {size n:Nat} {v:Value} {xs:List Value} (h:w.ownsRow base e size v n xs):eN (fun i=>v.ownBlock=some i) w size v n xs:=by
 refine⟨h.1,?_⟩;rcases h.2 with⟨rfl,rfl⟩ |⟨g,cap,c9,rfl,a1,bk,E,G,aj,aX⟩
 .exact⟨none,0,rfl,ap0 _,au6,fun h=>absurd h au5⟩
 .refine⟨_,cap,rfl,E,G,fun _=>⟨g,0,rfl,rfl,(h.lt g rfl).2,fun j u Z=>?_⟩⟩;have:=h.cells (g:=g) rfl j u Z
  rwa[p1] at this
theorem eN.wY {D jU:Nat->Prop} {w:World} {size n:Nat} {v:Value} {xs:List Value} (h:eN D w size v n xs) (J: ∀i,i < w.heap.size->D i->jU i):eN jU w size v n xs:=h.mono (kF.refl _ _) (ap0 _) J
theorem d' {W dz:World} (O:Below W.heap.size W dz) {p:Addr} {v:Value} (h:W.cell? p=some v):dz.cell? p=some v:=
 (O.cell (World.block_lt_of_cell? W p h)).trans h
def nA (w:World) (g:Nat) (l:List Value):Prop:= ∃t,w.heap[g]? =some (.cells l.toArray t (0,0))
theorem nA.c {w:World} {g:Nat} {l:List Value} (h:nA w g l) (j:Nat) (u:Value) (Z:l[j]? =some u):w.cell? ⟨g,j,none⟩=some u:=by
 obtain⟨t,h⟩:=h;simp[World.cell?,h,Z]
theorem nA.d' {W dz:World} (O:Below W.heap.size W dz) {g:Nat} {l:List Value} (h:nA W g l):nA dz g l:=by
 obtain⟨t,h⟩:=h;exact⟨t,(O.block g (k1 h)).trans h⟩
theorem nA.kc {W dz:World} {g:Nat} {l:List Value} (h:nA W g l) (O:dz.heap[g]? =W.heap[g]?):nA dz g l:=by
 obtain⟨t,h⟩:=h;exact⟨t,O.trans h⟩
theorem nA.lt {w:World} {g:Nat} {l:List Value} (h:nA w g l):g < w.heap.size:=by
 obtain⟨t,h⟩:=h;exact k1 h
theorem nA.set {w:World} {g:Nat} {l:List Value} (h:nA w g l) (j:Nat) (u:Value):nA (w.setCell ⟨g,j,none⟩ u) g (l.set j u):=by
 obtain⟨t,h⟩:=h;refine⟨t,?_⟩;simp[World.setCell,Array.getElem?_modify,h]
theorem nA.other {w:World} {g:Nat} {l:List Value} (h:nA w g l) {p:Addr} (af:g≠p.block) (u:Value):nA (w.setCell p u) g l:=h.kc (Below.heap_setCell w p u g af)
theorem pk.below {D:Nat->Prop} {w w':World} {v:Value} {l:List lY} (h:pk D w v l) (O:Below w.heap.size w w'):pk D w' v l:=
 h.mono (kF.mo O) O.size fun _ _ h=>h
theorem kG.below {D:Nat->Prop} {w w':World} {v:Value} {l:ay4} (h:kG D w v l) (O:Below w.heap.size w w'):kG D w' v l:=
 h.mono (kF.mo O) O.size fun _ _ h=>h
theorem eN.below {D:Nat->Prop} {w w':World} {size n:Nat} {v:Value} {xs:List Value} (h:eN D w size v n xs) (O:Below w.heap.size w w'):eN D w' size v n xs:=
 h.mono (kF.mo O) O.size fun _ _ h=>h
theorem s0 (w:World) (o:Obj):Below w.heap.size w (w.alloc o):=(Below.refl _ _).alloc (ap0 _) _
theorem Xq (w:World):Below w.heap.size w w.drew:=(Below.refl _ _).drew
def N' {α:Type} (R:(Nat->Prop)->World->α->List Value->Prop):Prop:=
 ∀(D jU:Nat->Prop) (w w':World),kF D w w'->w.heap.size<=w'.heap.size->(∀i,i < w.heap.size->D i->jU i)-> ∀a c,R D w a c->R jU w' a c
def aO (B:Nat) (v:Value):Nat->Prop:=fun i=>B<=i/\v.ownBlock≠some i
def tY {α:Type} (R:(Nat->Prop)->World->α->List Value->Prop) (T s:Nat) (w:World) (B:Nat) (v:Value) (l:List α):Prop:=
 ∃xs,w.ownsRow B T s v l.length xs/\iS (R (aO B v)) w l xs
theorem tY.nil {α:Type} (R:(Nat->Prop)->World->α->List Value->Prop) (T s:Nat) (w:World) (B:Nat):tY R T s w B (.slice none 0 0) []:=⟨[],World.ownsRow_nil _ _ _ _,rfl⟩
theorem Xr {w w':World} {base:Nat} {e:TypeId} {size n:Nat} {v:Value} {xs:List Value} (h:w.ownsRow base e size v n xs) (O:Below w.heap.size w w'):w'.ownsRow base e size v n xs:=
 h.kept (row:=none) ⟨O.os,O.tape,O.output,O.size,fun k ab _=>O.block k ab⟩ (by cases v.ownBlock <;>simp)
theorem tY.below {α:Type} {R:(Nat->Prop)->World->α->List Value->Prop} (fq:N' R) {T s:Nat} {w w':World} {B:Nat} {v:Value} {l:List α} (h:tY R T s w B v l) (O:Below w.heap.size w w'):tY R T s w' B v l:=by
 obtain⟨xs,E,G⟩:=h;exact⟨xs,Xr E O,iS.mono (fun a c H=>fq _ _ _ _ (kF.mo O) O.size (fun _ _ h=>h) a c H) l xs G⟩
theorem tY.qP {α:Type} {R:(Nat->Prop)->World->α->List Value->Prop} (fq:N' R) {T s:Nat} {w w':World} {B n:Nat} {v cW:Value} {l:List α} {xs:List Value} {a:α} {c:List Value}
  (G:iS (R (aO B v)) w l xs) (H:R (aO B v) w a c) (al:n=(l++[a]).length) (du:w'.ownsRow B T s cW n (xs++c)) (nB:w.grownBy w' v.ownBlock) (iT:cW.ownBlock=v.ownBlock\/cW.ownBlock=some w.heap.size):tY R T s w' B cW (l++[a]):=by
 subst al;have ab:kF (aO B v) w w':=fun i aH b9=>nB.block i aH (fun e=>b9.2 e.symm)
 have J: ∀i,i < w.heap.size->aO B v i->aO B cW i:=fun i aH b9=>⟨b9.1,by
  rcases iT with e |e <;>rw[e]
  .exact b9.2
  .intro e;injection e;omega⟩
 exact⟨_,du,iS.qP (fq _ _ _ _ ab nB.size J a c H) l xs (iS.mono (fun a c H=>fq _ _ _ _ ab nB.size J a c H) l xs G)⟩
theorem tY.N7 {T:Nat} {w:World} {B:Nat} {v:Value} {l:List lY} (h:tY sZ T 2 w B v l):pk (fun i=>B<=i) w v l:=by
 obtain⟨xs,E,G⟩:=h;exact⟨xs,(eN.qQ E).wY fun i _ aH=>(E.lt i aH).1,iS.mono (fun a c H=>sZ.mono (kF.refl _ _) (ap0 _) (fun i _ aH=>aH.1) a c H) l xs G⟩
theorem pk.get {D:Nat->Prop} {w:World} {A:Option Addr} {n c:Nat} {l:List lY} (h:pk D w (.slice A n c) l) {k:Nat} {p:lY} (hx:l[k]? =some p):
  ∃b o A' bX,A=some ⟨b,o,none⟩/\D b/\b < w.heap.size/\w.cell? ⟨b,o+k*2,none⟩=some (.int .i64 p.C)/\w.cell? ⟨b,o+k*2+1,none⟩=some (.slice A' p.B.length bX)/\kG D w (.slice A' p.B.length bX) p.B/\p.B.length<=bX/\bX<=maxLen:=by
 obtain⟨ab,rfl⟩:=ap5.1 hx;have hn:n=l.length:=by obtain⟨A',bX,V,_,_⟩:=h.form;injection V
 obtain⟨-,b,o,bv,A0,rfl,b9,O,gW,cC,da⟩:=h.at_ (k:=k) au5;obtain⟨A',bX,rfl,E,G⟩:=da.form;exact⟨b,o,A',bX,rfl,b9,O,gW,cC,da,E,G⟩
theorem eN.drew {D:Nat->Prop} {w:World} {size n:Nat} {v:Value} {xs:List Value} (h:eN D w size v n xs):eN D w.drew size v n xs:=h
theorem Oa {w w':World} {row:Option Nat} {S:Nat->Prop} (a1:w.grownBy w' row) (aF: ∀k,row=some k->S k):cK S w w':=
 ⟨a1.os,a1.tape,a1.output,a1.size,fun k ab hn=>a1.block k ab (fun e=>hn (aF k e.symm))⟩
theorem Xs {D:Nat->Prop} {w:World} {m:Nat} {h0:Value} {ys:List Value} (h:eN D w 1 h0 m ys) (tZ:Nat):
  ∃sp D1,h0= .slice sp m D1/\(ys.take tZ).length=Nat.min m tZ/\(0 < (ys.take tZ).length-> ∃ad,sp=some ad/\ ∀j v,(ys.take tZ)[j]? =some v->w.cell? (ad.add j)=some v):=by
 obtain⟨al,A,c,rfl,_,_,aj⟩:=h;have ox:ys.length=m:=av3
 have A4:(ys.take tZ).length=Nat.min m tZ:=by rw[ap8,ox];exact Nat.min_comm _ _
 refine⟨A,c,rfl,A4,fun af=>?_⟩
 have az:0 < m:=by
  have:=Nat.min_le_left m tZ;have e:min m tZ=Nat.min m tZ:=rfl;omega
 obtain⟨b,o,rfl,_,_,H⟩:=aj az;refine⟨_,rfl,fun j v Z=>?_⟩;rw[p1];refine H j v ?_;rw[List.getElem?_take] at Z
 split at Z
 .exact Z
 .cases Z
theorem Xt {P:Program} (w:World) (h0 dst e:TypeId) (s:ByteArray) (ax:P.underlying h0=some .string) (J:P.underlying dst=some (.slice e)) (V:P.underlying e=some (.int .u8)) (az:s.size<=4294967296):
  ∃cap dz,(convert h0 dst (.string s)).run P w= .ok (.slice (some ⟨w.heap.size,0,none⟩) s.size cap) dz/\kG (fun i=>w.heap.size<=i) dz (.slice (some ⟨w.heap.size,0,none⟩) s.size cap) s.data.toList/\Below w.heap.size w dz:=by
 refine⟨_,_,Lib.run_convert_string_bytes w h0 dst e s ax J V,?_,?_⟩
 .have al:s.data.toList.length=s.size:=by simp
  unfold kG;rw[al];refine⟨by rw[aq3,al];omega,_,_,rfl,grownCap_ge _ _ _ _,grownCap_le_maxLen _ _ _ _ aw9,fun _=>⟨_,0,rfl,ap0 _,by rw[Lib.bytesWorld_size];omega,fun j u Z=>?_⟩⟩
  have rU:j < s.data.toList.length:=by
   have:=(ap5.1 Z).1;simpa using this
  rw[Nat.zero_add,Lib.bytesWorld_cell w e s j au5];rw[ar0,oj rU] at Z;simp only[at2,ap4] at Z;rw[<-Z,ap9,oj rU];rfl
 .exact⟨rfl,rfl,rfl,by rw[Lib.bytesWorld_size];omega,fun k ab=>Lib.bytesWorld_at_old w e s k ab⟩
theorem Ob {P:Program} {D:Nat->Prop} {w:World} {A:Option Addr} {n c:Nat} {l:ay4} (h:kG D w (.slice A n c) l) (h0 dst e:TypeId) (ax:P.underlying h0=some (.slice e)) (V:P.underlying e=some (.int .u8)) (J:P.underlying dst=some .string):
  (convert h0 dst (.slice A n c)).run P w= .ok (.string ⟨l.toArray⟩) w:=by
 obtain⟨al,A',bX,ay,_,_,aj⟩:=h;injection ay with ai ao bl
 subst ai ao bl;rcases A with _ |ad
 .have av:l=[]:=by
   rcases Nat.eq_zero_or_pos l.length with h |h
   .exact List.eq_nil_of_length_eq_zero h
   .obtain⟨b,o,ha,_⟩:=aj h;cases ha
  subst av;exact run_convert_bytes_nil w h0 e ax V _ _ dst J
 .refine run_convert_bytes_back w h0 dst e ad _ l ax V J fun j Z=>?_
  obtain⟨b,o,ha,_,_,H⟩:=aj au5;injection ha with ha
  subst ha;rw[p1];exact H j _ (by simp[oj Z,hZ])
def A5 (_:Nat->Prop) (_:World) (p:lY) (c:List Value):Prop:=c=[.int .i64 p.C,.string ⟨p.B.toArray⟩]
def s1 (D:Nat->Prop) (w:World) (v:Value) (l:List lY):Prop:= ∃xs,eN D w 2 v l.length xs/\iS (A5 D) w l xs
theorem s1.mono {D jU:Nat->Prop} {w w':World} {v:Value} {l:List lY} (h:s1 D w v l) (ab:kF D w w') (hw:w.heap.size<=w'.heap.size) (J: ∀i,i < w.heap.size->D i->jU i):s1 jU w' v l:=by
 obtain⟨xs,E,G⟩:=h;exact⟨xs,E.mono ab hw J,iS.mono (R:=A5 D) (R':=A5 jU) (fun _ _ h=>h) l xs G⟩
theorem s1.below {D:Nat->Prop} {w w':World} {v:Value} {l:List lY} (h:s1 D w v l) (O:Below w.heap.size w w'):s1 D w' v l:=h.mono (kF.mo O) O.size fun _ _ h=>h
theorem s1.form {D:Nat->Prop} {w:World} {v:Value} {l:List lY} (h:s1 D w v l): ∃A c,v= .slice A l.length c/\l.length<=c/\c<=maxLen:=by
 obtain⟨xs,⟨_,A,c,rfl,E,G,_⟩,_⟩:=h;exact⟨A,c,rfl,E,G⟩
theorem eN.elem {α:Type} {D:Nat->Prop} {w:World} {s:Nat} {A:Option Addr} {n c:Nat} {l:List α} {xs:List Value} {R:World->α->List Value->Prop} (h:eN D w s (.slice A n c) l.length xs) (aF:iS R w l xs) (ax: ∀a c,R w a c->c.length=s) {k:Nat} {x:α} (hx:l[k]? =some x):
  n=l.length/\k < n/\ ∃b o cs,A=some ⟨b,o,none⟩/\D b/\b < w.heap.size/\R w x cs/\ ∀j u,cs[j]? =some u->w.cell? ⟨b,o+(k*s+j),none⟩=some u:=by
 obtain⟨ab,rfl⟩:=ap5.1 hx;obtain⟨al,A',bX,V,_,_,aj⟩:=h;injection V with ai ao bl
 subst ai ao bl;obtain⟨b,o,rfl,b9,O,H⟩:=aj au5;obtain⟨cs,fq,Z⟩:=iS.get ax l xs aF k ab;refine⟨rfl,ab,b,o,cs,rfl,b9,O,fq,fun j u Oc=>H _ u ?_⟩;have Xu:j < s:=by rw[<-ax _ _ fq];exact(ap5.1 Oc).1
 rw[Z j Xu];exact Oc
theorem s1.get {D:Nat->Prop} {w:World} {A:Option Addr} {n c:Nat} {l:List lY} (h:s1 D w (.slice A n c) l) {k:Nat} {p:lY} (hx:l[k]? =some p):
  ∃b o,A=some ⟨b,o,none⟩/\D b/\b < w.heap.size/\w.cell? ⟨b,o+k*2,none⟩=some (.int .i64 p.C)/\w.cell? ⟨b,o+k*2+1,none⟩=some (.string ⟨p.B.toArray⟩):=by
 obtain⟨xs,E,G⟩:=h;obtain⟨-,-,b,o,cs,rfl,b9,O,fq,H⟩:=eN.elem E G (fun a c h=>by unfold A5 at h;subst h;rfl) hx;unfold A5 at fq;subst fq;refine⟨b,o,rfl,b9,O,?_,?_⟩
 .simpa using H 0 _ rfl
 .simpa[Nat.add_assoc] using H 1 _ rfl
theorem H' {w:World} (o:Obj) {g:Nat} (h:g=w.heap.size):(w.alloc o).heap[g]? =some o:=by subst h;exact heap_alloc_new w o
end
section
inductive bx where
 |int (k:IntKind)
 |u8
 |bool
 |str
 |aL
 |dC
 |fn
 |b7 (u:bx)
 |bQ (u v:bx)
 |arr (n:Nat) (u:bx)
def aa:bx->Type
 | .int _=>Int
 | .u8=>UInt8
 | .bool=>Bool
 | .str=>ay4
 | .aL=>Option Nat
 | .dC=>Option (Nat×Nat×Nat)
 | .fn=>Nat×ay5
 | .b7 u=>List (aa u)
 | .bQ u v=>aa u×aa v
 | .arr _ u=>List (aa u)
def aQ:bx->Nat
 | .int _=>1
 | .u8=>1
 | .bool=>1
 | .str=>1
 | .aL=>1
 | .dC=>1
 | .fn=>1
 | .b7 _=>1
 | .bQ u v=>aQ u+aQ v
 | .arr n u=>n*aQ u
def cL:(u:bx)->aa u
 | .int _=>(0:Int)
 | .u8=>(0:UInt8)
 | .bool=>false
 | .str=>([]:ay4)
 | .aL=>(none:Option Nat)
 | .dC=>(none:Option (Nat×Nat×Nat))
 | .fn=>((0,[]):Nat×ay5)
 | .b7 _=>[]
 | .bQ u v=>(cL u,cL v)
 | .arr n u=>List.replicate n (cL u)
inductive D where
 |int (k:IntKind) (n:Int)
 |lit (b:Bool)
 |bool (b:Bool)
 |str (s:ay4)
 |aL (x:Option Nat)
 |dC (x:Option (Nat×Nat×Nat))
 |fn (x:Nat×ay5)
 |ck (u:bx) (xs:List (aa u))
def fC:(u:bx)->aa u->Nat->D
 | .int k,n,_=>.int k n
 | .u8,b,_=>.int .u8 (UInt8.toNat b:Int)
 | .bool,b,_=>.bool b
 | .str,s,_=>.str s
 | .aL,x,_=>.aL x
 | .dC,x,_=>.dC x
 | .fn,x,_=>.fn x
 | .b7 u,xs,_=>.ck u xs
 | .bQ u v,p,j=>match Nat.blt j (aQ u) with
  |true=>fC u p.1 j
  |false=>fC v p.2 (j - aQ u)
 | .arr _ u,xs,j=>fC u (List.getD xs (j/aQ u) (cL u)) (j % aQ u)
def fD {α:Type} (xs:List α) (i:Nat):Option α:=xs[i]?
def D2 {α:Type} (x:α) (xs:List α):Prop:=x∈xs
theorem Xv {α:Type} (xs:List α) (i:Nat) (d:α) (h:i < xs.length):fD xs i=some (xs.getD i d):=by
 unfold fD;rw[ap9,oj h];rfl
theorem Xw {α:Type} {xs:List α} {i:Nat} {y:α} (d:α) (h:fD xs i=some y):xs.getD i d=y:=by
 unfold fD at h;rw[ap9,h];rfl
theorem A6 {α:Type} {xs:List α} {i:Nat} {y:α} (h:fD xs i=some y):i < xs.length:=(ap5.1 h).1
theorem Xx {α:Type} {xs:List α} {i:Nat} {y:α} (h:fD xs i=some y):D2 y xs:=List.mem_of_getElem? h
def oy:(u:bx)->aa u->Prop
 | .bQ u v,p=>oy u p.1/\oy v p.2
 | .arr n u,xs=>List.length xs=n/\ ∀x,D2 (α:=aa u) x xs->oy u x
 |_,_=>True
def nC:Option Nat->Option Addr
 |none=>none
 |some b=>some ⟨b,0,none⟩
def qR:Option (Nat×Nat×Nat)->Value
 |none=>.slice none 0 0
 |some (b,n,cap)=>.slice (some ⟨b,0,none⟩) n cap
def qS:ay5->List Value
 | []=>[]
 |b::l=>.pointer (some ⟨b,0,none⟩)::qS l
def mq (x:Nat×ay5):Value:=.func (.func x.1) #[] (List.toArray (qS x.2))
def co (I:Nat->Prop) (w:World):(u:bx)->aa u->(Nat->Option Value)->Prop
 | .int k,n,c=>c 0=some (.int k n)
 | .u8,b,c=>c 0=some (.int .u8 (UInt8.toNat b:Int))
 | .bool,b,c=>c 0=some (.bool b)
 | .str,s,c=>c 0=some (.string ⟨List.toArray s⟩)
 | .aL,x,c=>c 0=some (.pointer (nC x))
 | .dC,x,c=>c 0=some (qR x)
 | .fn,x,c=>c 0=some (mq x)
 | .b7 u,xs,c=> ∃A cap,c 0=some (.slice A (List.length xs) cap)/\List.length xs<=cap/\cap<=maxLen/\
  (0 < List.length xs-> ∃b o,A=some ⟨b,o,none⟩/\I b/\ ∀i x,fD (α:=aa u) xs i=some x->co I w u x (fun j=>w.cell? ⟨b,o+(i*aQ u+j),none⟩))
 | .bQ u v,p,c=>co I w u p.1 c/\co I w v p.2 (fun j=>c (aQ u+j))
 | .arr n u,xs,c=>List.length xs=n/\ ∀i x,fD (α:=aa u) xs i=some x->co I w u x (fun j=>c (i*aQ u+j))
def gF (I:Nat->Prop) (w:World):D->Value->Prop
 | .int k n,v=>v= .int k n
 | .lit b,v=>v= .bool b
 | .bool b,v=>v= .bool b
 | .str s,v=>v= .string ⟨s.toArray⟩
 | .aL x,v=>v= .pointer (nC x)
 | .dC x,v=>v=qR x
 | .fn x,v=>v=mq x
 | .ck u xs,v=>co I w (.b7 u) xs (fun _=>some v)
def ce (I:Nat->Prop) (w:World) (I':Nat->Prop) (w':World):Prop:= ∀b,I b->I' b/\w'.heap[b]? =w.heap[b]?
section
variable {I I':Nat->Prop} {w w':World}
theorem ce.refl (I:Nat->Prop) (w:World):ce I w I w:=fun _ h=>⟨h,rfl⟩
theorem ce.trans {Od:Nat->Prop} {Oe:World} (h:ce I w I' w') (k:ce I' w' Od Oe):ce I w Od Oe:=fun b O=>⟨(k b (h b O).1).1,(k b (h b O).1).2.trans (h b O).2⟩
theorem Of {b o:Nat} {v:Value} (h:w'.heap[b]? =w.heap[b]?) (H:w.cell? ⟨b,o,none⟩=some v):w'.cell? ⟨b,o,none⟩=some v:=
 (World.cell?_of_block (a:=⟨b,o,none⟩) h).trans H
theorem co.mono (V:ce I w I' w'): ∀(u:bx) (x:aa u) (c bX:Nat->Option Value),(∀j v,c j=some v->bX j=some v)->co I w u x c->co I' w' u x bX:=by
 intro u
 induction u with
 |int k=>exact fun x c bX H h=>H _ _ h
 |u8=>exact fun x c bX H h=>H _ _ h
 |bool=>exact fun x c bX H h=>H _ _ h
 |str=>exact fun x c bX H h=>H _ _ h
 |aL=>exact fun x c bX H h=>H _ _ h
 |dC=>exact fun x c bX H h=>H _ _ h
 |fn=>exact fun x c bX H h=>H _ _ h
 |b7 u br=>
  rintro x c bX H ⟨A,cap,av,E,G,aj⟩;refine⟨A,cap,H _ _ av,E,G,fun al=>?_⟩;obtain⟨b,o,ek,ba,hx⟩:=aj al;exact⟨b,o,ek,(V b ba).1,fun i y aB=>br _ _ _ (fun j v ay=>Of (V b ba).2 ay) (hx i y aB)⟩
 |bQ u v oz oA=>exact fun x c bX H h=>⟨oz _ _ _ H h.1,oA _ _ _ (fun j v ay=>H _ _ ay) h.2⟩
 |arr n u br=>exact fun x c bX H h=>⟨h.1,fun i y aB=>br _ _ _ (fun j v ay=>H _ _ ay) (h.2 i y aB)⟩
theorem gF.mono (V:ce I w I' w'): ∀(x:D) (v:Value),gF I w x v->gF I' w' x v
 | .int _ _,_,h=>h
 | .lit _,_,h=>h
 | .bool _,_,h=>h
 | .str _,_,h=>h
 | .aL _,_,h=>h
 | .dC _,_,h=>h
 | .fn _,_,h=>h
 | .ck u xs,v,h=>co.mono V (.b7 u) xs (fun _=>some v) (fun _=>some v) (fun _ _ h=>h) h
theorem D3 {j n s:Nat} (h:j < n*s):j/s < n/\j % s < s/\j/s*s+j % s=j:=by
 have ax:0 < s:=by
  rcases Nat.eq_zero_or_pos s with av |av
  .subst av;simp at h
  .exact av
 exact⟨(Nat.div_lt_iff_lt_mul ax).2 h,Nat.mod_lt _ ax,by rw[Nat.mul_comm];exact Nat.div_add_mod j s⟩
theorem co.cell: ∀(u:bx) (x:aa u) (c:Nat->Option Value) (j:Nat),co I w u x c->j < aQ u-> ∃v,c j=some v/\gF I w (fC u x j) v:=by
 intro u
 induction u with
 |int k=>exact fun x c j h Z=>⟨_,(by
       have:j=0:=ax2
       subst this;exact h),rfl⟩
 |u8=>exact fun x c j h Z=>⟨_,(by
    have:j=0:=ax2
    subst this;exact h),rfl⟩
 |bool=>exact fun x c j h Z=>⟨_,(by
      have:j=0:=ax2
      subst this;exact h),rfl⟩
 |str=>exact fun x c j h Z=>⟨_,(by
     have:j=0:=ax2
     subst this;exact h),rfl⟩
 |aL=>exact fun x c j h Z=>⟨_,(by
     have:j=0:=ax2
     subst this;exact h),rfl⟩
 |dC=>exact fun x c j h Z=>⟨_,(by
     have:j=0:=ax2
     subst this;exact h),rfl⟩
 |fn=>exact fun x c j h Z=>⟨_,(by
    have:j=0:=ax2
    subst this;exact h),rfl⟩
 |b7 u _=>
  intro x c j h Z;have:j=0:=ax2
  subst this;obtain⟨A,cap,av,E⟩:=h;exact⟨_,av,A,cap,rfl,E⟩
 |bQ u v oz oA=>
  intro x c j h Z;simp only[aQ] at Z;unfold fC
  by_cases bw:j < aQ u
  .rw[show Nat.blt j (aQ u)=true by simpa[Nat.blt_eq] using bw];exact oz _ _ _ h.1 bw
  .rw[show Nat.blt j (aQ u)=false by rw[at4];simpa[Nat.blt_eq] using bw];have:=oA _ _ (j - aQ u) h.2 au5
   rwa[show aQ u+(j - aQ u)=j by omega] at this
 |arr n u br=>
  intro x c j h Z;obtain⟨ai,ao,bl⟩:=D3 (by simpa[aQ] using Z);have al:j/aQ u < List.length x:=by rw[h.1];exact ai
  have a1:fD (α:=aa u) x (j/aQ u)=some (List.getD x (j/aQ u) (cL u)):=Xv (α:=aa u) x _ _ al;have:=br _ _ (j % aQ u) (h.2 _ _ a1) ao;rw[bl] at this;exact this
theorem co.mk: ∀(u:bx) (x:aa u) (c:Nat->Option Value),oy u x->(∀j,j < aQ u-> ∃v,c j=some v/\gF I w (fC u x j) v)->co I w u x c:=by
 intro u
 induction u with
 |int k=>intro x c _ h;obtain⟨v,E,G⟩:=h 0 (by simp[aQ]);rw[show v=_ from G] at E;exact E
 |u8=>intro x c _ h;obtain⟨v,E,G⟩:=h 0 (by simp[aQ]);rw[show v=_ from G] at E;exact E
 |bool=>intro x c _ h;obtain⟨v,E,G⟩:=h 0 (by simp[aQ]);rw[show v=_ from G] at E;exact E
 |str=>intro x c _ h;obtain⟨v,E,G⟩:=h 0 (by simp[aQ]);rw[show v=_ from G] at E;exact E
 |dC=>intro x c _ h;obtain⟨v,E,G⟩:=h 0 (by simp[aQ]);rw[show v=_ from G] at E;exact E
 |fn=>intro x c _ h;obtain⟨v,E,G⟩:=h 0 (by simp[aQ]);rw[show v=_ from G] at E;exact E
 |aL=>intro x c _ h;obtain⟨v,E,G⟩:=h 0 (by simp[aQ]);rw[show v=_ from G] at E;exact E
 |b7 u _=>
  intro x c _ h;obtain⟨v,E,A,cap,G,aj⟩:=h 0 (by simp[aQ]);exact⟨A,cap,E.trans G,aj⟩
 |bQ u v oz oA=>
  intro x c hw h;refine⟨oz _ _ hw.1 fun j Z=>?_,oA _ _ hw.2 fun j Z=>?_⟩
  .obtain⟨v,E,G⟩:=h j (by simp only[aQ];omega);unfold fC at G;rw[show Nat.blt j (aQ u)=true by simpa[Nat.blt_eq] using Z] at G;exact⟨v,E,G⟩
  .obtain⟨cW,E,G⟩:=h (aQ u+j) (by simp only[aQ];omega);unfold fC at G;rw[show Nat.blt (aQ u+j) (aQ u)=false by rw[at4];simp[Nat.blt_eq]] at G;rw[show aQ u+j - aQ u=j by omega] at G;exact⟨cW,E,G⟩
 |arr n u br=>
  intro x c hw h;refine⟨hw.1,fun i y aB=>br _ _ (hw.2 y (Xx (α:=aa u) aB)) fun j Z=>?_⟩;have aH:i < List.length x:=A6 (α:=aa u) aB;have ft:i < n:=by rw[<-hw.1];exact aH
  have bw:i*aQ u+j < n*aQ u:=by
   have:=Nat.mul_le_mul_right (aQ u) ft;rw[Nat.succ_mul] at this;omega
  obtain⟨v,E,G⟩:=h (i*aQ u+j) bw;unfold fC at G
  have ai:(i*aQ u+j)/aQ u=i:=by
   rw[Nat.mul_comm,Nat.mul_add_div au5,Nat.div_eq_of_lt Z,Nat.add_zero]
  have ao:(i*aQ u+j) % aQ u=j:=by
   rw[Nat.mul_comm,Nat.mul_add_mod,Nat.mod_eq_of_lt Z]
  rw[ai,ao] at G;rw[show List.getD x i (cL u)=y from Xw (α:=aa u) _ aB] at G;exact⟨v,E,G⟩
end
structure bn where
 bj:Nat
 A:Option Addr
 n:Nat
 cap:Nat
def bn.ey (p:bn):Value:=.slice p.A p.n p.cap
inductive kH where
 |p (c off:Nat)
 |d (x:D)
inductive bC where
 |d (x:D)
 |ptr (c off:Nat)
 |own (c:Nat)
 |el (u:bx) (x:aa u) (off:Nat)
 |f2 (c s i off:Nat)
 |os (c s off n:Nat)
 |mp (c:Nat)
 |cU (f:FuncId) (l:List kH)
 |dD
 |bJ (v:Value)
 |any
inductive dI where
 |one (s:bC)
 |agg (l:List bC)
 |jV (u:bx) (x:aa u)
inductive aP where
 |c (x:dI)
 |cf (l:List dI)
 |undef
structure bf where
 R:(Nat->Prop)->(Nat->Prop)->World->bn->Prop
 cj: ∀(I F:Nat->Prop) (w:World) (I':Nat->Prop) (w':World) (p:bn),R I F w p->ce I w I' w'->(∀b,F b->w'.heap[b]? =w.heap[b]?)->w.heap.size<=w'.heap.size->R I' F w' p
inductive bb where
 |cells (l:List bC)
 |row (e:TypeId) (u:bx) (xs:List (aa u))
 |map (aI aK:bx) (es:List (aa aI×aa aK))
 |val (u:bx) (x:aa u)
 |aG (o:bf)
 |cn (d:Nat) (o:bn->bf)
def wZ (ρ:Nat->bn) (I:Nat->Prop) (w:World):kH->Value->Prop
 | .p c off,v=>v= .pointer (some ⟨(ρ c).bj,off,none⟩)
 | .d x,v=>gF I w x v
def hO (ρ:Nat->bn) (I:Nat->Prop) (w:World):List kH->List Value->Prop
 | [],aE=>aE=[]
 |s::l,aE=> ∃v r,aE=v::r/\wZ ρ I w s v/\hO ρ I w l r
def dU (ρ:Nat->bn) (I:Nat->Prop) (w:World):bC->Value->Prop
 | .d x,v=>gF I w x v
 | .ptr c off,v=>v= .pointer (some ⟨(ρ c).bj,off,none⟩)
 | .own c,v=>v=(ρ c).ey
 | .el u x off,v=> ∃b o,v= .pointer (some ⟨b,o+off,none⟩)/\I b/\co I w u x (fun j=>w.cell? ⟨b,o+j,none⟩)
 | .f2 c s i off,v=>v= .pointer (some ⟨(ρ c).bj,i*s+off,none⟩)
 | .os c s off n,v=>v= .slice (if(ρ c).cap=off then(ρ c).A else(ρ c).A.map (·.add (off*s))) n ((ρ c).cap - off)
 | .mp c,v=>v= .map (some (ρ c).bj)
 | .cU f l,v=> ∃aE,v= .func (.func f) #[] (List.toArray aE)/\hO ρ I w l aE
 | .dD,v=>v= .slice none 0 0
 | .bJ u,v=>v=u
 | .any,_=>True
def b' (ρ:Nat->bn) (I:Nat->Prop) (w:World):List bC->List Value->Prop
 | [],aE=>aE=[]
 |s::l,aE=> ∃v r,aE=v::r/\dU ρ I w s v/\b' ρ I w l r
def gA (ρ:Nat->bn) (I:Nat->Prop) (w:World):dI->Value->Prop
 | .one s,v=>dU ρ I w s v
 | .agg l,v=> ∃aE,v= .agg (List.toArray aE)/\b' ρ I w l aE
 | .jV u x,v=> ∃aE,v= .agg (List.toArray aE)/\aE.length=aQ u/\co I w u x (fun j=>aE[j]?)
def iM (ρ:Nat->bn) (I:Nat->Prop) (w:World):List dI->List Value->Prop
 | [],aE=>aE=[]
 |s::l,aE=> ∃v r,aE=v::r/\gA ρ I w s v/\iM ρ I w l r
def cr (ρ:Nat->bn) (I:Nat->Prop) (w:World):aP->Value->Prop
 | .c x,v=>gA ρ I w x v
 | .cf l,v=> ∃aE,v= .tuple (List.toArray aE)/\iM ρ I w l aE
 | .undef,v=>v=Go.undef
def gG:(u:bx)->aa u->Value
 | .int k,n=>.int k n
 | .str,s=>.string ⟨List.toArray s⟩
 |_,_=>.nilFunc
def mZ:bx->Bool
 | .bQ _ _=>false
 | .arr _ _=>false
 |_=>true
def jk (I:Nat->Prop) (w:World) (u:bx) (x:aa u) (v:Value):Prop:=v.cells.size=aQ u/\((mZ u=true->v.cells= #[v])/\(mZ u=false-> ∃cs,v= .agg cs))/\co I w u x (fun j=>v.cells.toList[j]?)
def ie (I:Nat->Prop) (w:World) (aI aK:bx):List (aa aI×aa aK)->List MapEntry->Prop
 | [],es=>es=[]
 |p::l,es=> ∃e r,es=e::r/\e.key=gG aI p.1/\jk I w aK p.2 e.val/\ie I w aI aK l r
def lZ (es:List MapEntry) (bV:Nat):Prop:=(es.map (·.born)).Pairwise (· < ·)/\ ∀e,e∈es->e.born < bV
def gL (I:Nat->Prop) (w:World) (u:bx) (xs:List (aa u)) (cs:List Value):Prop:= ∀i x,xs[i]? =some x->co I w u x (fun j=>cs[i*aQ u+j]?)
def Holds (ρ:Nat->bn) (I F:Nat->Prop) (w:World) (p:bn):bb->Prop
 | .cells l=>(∀b,F b↔b=p.bj)/\ ∃aE T,w.heap[p.bj]? =some (.cells (List.toArray aE) T (0,0))/\b' ρ I w l aE
 | .row e u xs=>(∀b,F b↔p.ey.ownBlock=some b)/\(∀b,p.ey.ownBlock=some b->b=p.bj)/\ ∃cs,w.ownsRow 0 e (aQ u) p.ey xs.length cs/\gL I w u xs cs
 | .map aI aK es=>(∀b,F b↔b=p.bj)/\ ∃bT bV,w.heap[p.bj]? =some (.map (List.toArray bT) bV)/\ie I w aI aK es bT/\lZ bT bV
 | .val u x=>(∀b,F b↔b=p.bj)/\ ∃aE T,w.heap[p.bj]? =some (.cells (List.toArray aE) T (0,0))/\aE.length=aQ u/\co I w u x (fun j=>aE[j]?)
 | .aG o=>o.R I F w p
 | .cn d o=>(o (ρ d)).R I F w p
def l0 (c:Nat):List kH->Bool
 | []=>false
 | .p b _::l=>Nat.beq b c||l0 c l
 | .d _::l=>l0 c l
def bC.has (c:Nat):bC->Bool
 | .ptr b _=>Nat.beq b c
 | .own b=>Nat.beq b c
 | .f2 b _ _ _=>Nat.beq b c
 | .os b _ _ _=>Nat.beq b c
 | .mp b=>Nat.beq b c
 | .cU _ l=>l0 c l
 |_=>false
def mr (c:Nat):List bC->Bool
 | []=>false
 |s::l=>s.has c||mr c l
def dI.has (c:Nat):dI->Bool
 | .one s=>s.has c
 | .agg l=>mr c l
 | .jV _ _=>false
def s2 (c:Nat):List dI->Bool
 | []=>false
 |s::l=>s.has c||s2 c l
def aP.has (c:Nat):aP->Bool
 | .c x=>x.has c
 | .cf l=>s2 c l
 | .undef=>false
def bb.has (c:Nat):bb->Bool
 | .cells l=>mr c l
 | .cn d _=>Nat.beq d c
 |_=>false
section
variable {ρ ρ':Nat->bn} {I I':Nat->Prop} {w w':World}
theorem hO.mono (V:ce I w I' w'): ∀(l:List kH) (aE:List Value),(∀c,l0 c l=true->ρ' c=ρ c)->hO ρ I w l aE->hO ρ' I' w' l aE
 | [],_,_,h=>h
 | .p b o::l,_,dl,⟨v,r,e,E,G⟩=>⟨v,r,e,(by have e:=dl b (by simp[l0]);simp only[wZ] at*;rw[e];exact E),hO.mono V l r (fun c H=>dl c (by simp[l0,H])) G⟩
 | .d x::l,_,dl,⟨v,r,e,E,G⟩=>⟨v,r,e,gF.mono V x v E,hO.mono V l r (fun c H=>dl c (by simpa[l0] using H)) G⟩
theorem dU.mono (V:ce I w I' w') (s:bC) (v:Value) (dl: ∀c,s.has c=true->ρ' c=ρ c) (h:dU ρ I w s v):dU ρ' I' w' s v:=by
 cases s with
 |d x=>exact gF.mono V x v h
 |ptr c off=>
  have e:=dl c aw8;simp only[dU] at*;rw[e];exact h
 |own c=>
  have e:=dl c aw8;simp only[dU] at*;rw[e];exact h
 |el u x off=>
  obtain⟨b,o,E,G,aj⟩:=h;exact⟨b,o,E,(V b G).1,co.mono V u x _ _ (fun j v ay=>Of (V b G).2 ay) aj⟩
 |f2 c s i off=>
  have e:=dl c aw8;simp only[dU] at*;rw[e];exact h
 |os c s off n=>
  have e:=dl c aw8;simp only[dU] at*;rw[e];exact h
 |mp c=>
  have e:=dl c aw8;simp only[dU] at*;rw[e];exact h
 |cU f l=>obtain⟨aE,e,h⟩:=h;exact⟨aE,e,hO.mono V l aE dl h⟩
 |dD=>exact h
 |bJ u=>exact h
 |any=>trivial
theorem b'.mono (V:ce I w I' w'): ∀(l:List bC) (aE:List Value),(∀c,mr c l=true->ρ' c=ρ c)->b' ρ I w l aE->b' ρ' I' w' l aE
 | [],_,_,h=>h
 |s::l,_,dl,⟨v,r,e,E,G⟩=>⟨v,r,e,dU.mono V s v (fun c H=>dl c (by simp[mr,H])) E,b'.mono V l r (fun c H=>dl c (by simp[mr,H])) G⟩
theorem gA.mono (V:ce I w I' w') (s:dI) (v:Value) (dl: ∀c,s.has c=true->ρ' c=ρ c) (h:gA ρ I w s v):gA ρ' I' w' s v:=by
 cases s with
 |one s=>exact dU.mono V s v dl h
 |agg l=>obtain⟨aE,e,h⟩:=h;exact⟨aE,e,b'.mono V l aE dl h⟩
 |jV u x=>obtain⟨aE,e,E,G⟩:=h;exact⟨aE,e,E,co.mono V u x _ _ (fun _ _ h=>h) G⟩
theorem iM.mono (V:ce I w I' w'): ∀(l:List dI) (aE:List Value),(∀c,s2 c l=true->ρ' c=ρ c)->iM ρ I w l aE->iM ρ' I' w' l aE
 | [],_,_,h=>h
 |s::l,_,dl,⟨v,r,e,E,G⟩=>⟨v,r,e,gA.mono V s v (fun c H=>dl c (by simp[s2,H])) E,iM.mono V l r (fun c H=>dl c (by simp[s2,H])) G⟩
theorem cr.mono (V:ce I w I' w') (s:aP) (v:Value) (dl: ∀c,s.has c=true->ρ' c=ρ c) (h:cr ρ I w s v):cr ρ' I' w' s v:=by
 cases s with
 |c s=>exact gA.mono V s v dl h
 |cf l=>obtain⟨aE,e,h⟩:=h;exact⟨aE,e,iM.mono V l aE dl h⟩
 |undef=>exact h
theorem gL.mono (V:ce I w I' w') {u:bx} {xs:List (aa u)} {cs:List Value} (h:gL I w u xs cs):gL I' w' u xs cs:=fun i x hx=>co.mono V u x _ _ (fun _ _ h=>h) (h i x hx)
theorem jk.mono (V:ce I w I' w') {u:bx} {x:aa u} {v:Value} (h:jk I w u x v):jk I' w' u x v:=⟨h.1,h.2.1,co.mono V u x _ _ (fun _ _ h=>h) h.2.2⟩
theorem ie.mono (V:ce I w I' w') {aI aK:bx}: ∀{l:List (aa aI×aa aK)} {es:List MapEntry},ie I w aI aK l es->ie I' w' aI aK l es
 | [],_,h=>h
 |_::_,_,⟨e,r,av,E,G,aj⟩=>⟨e,r,av,E,G.mono V,aj.mono V⟩
theorem Og {e s n:Nat} {v:Value} {cs:List Value} (h:w.ownsRow 0 e s v n cs) (O: ∀b,v.ownBlock=some b->w'.heap[b]? =w.heap[b]?):w'.ownsRow 0 e s v n cs:=by
 refine⟨h.1,?_⟩;rcases h.2 with h |⟨g,cap,c9,ay,av,a1,r⟩
 .exact .inl h
 .exact .inr ⟨g,cap,c9,ay,av,(O g (by rw[ay];rfl)).trans a1,r⟩
theorem Holds.cj (V:ce I w I' w') {F:Nat->Prop} (bh: ∀b,F b->w'.heap[b]? =w.heap[b]?) (aR:w.heap.size<=w'.heap.size) {p:bn}: ∀(ch:bb),(∀c,ch.has c=true->ρ' c=ρ c)->Holds ρ I F w p ch->Holds ρ' I' F w' p ch
 | .cells l,dl,⟨E,aE,T,G,aj⟩=>⟨E,aE,T,(bh _ ((E _).2 rfl)).trans G,b'.mono V l aE dl aj⟩
 | .row e u xs,_,⟨E,G,cs,aj,aX⟩=>⟨E,G,cs,Og aj fun b O=>bh b ((E b).2 O),aX.mono V⟩
 | .map aI aK es,_,⟨E,bT,bV,G,aj,aX⟩=>⟨E,bT,bV,(bh _ ((E _).2 rfl)).trans G,aj.mono V,aX⟩
 | .val u x,_,⟨E,aE,T,G,aj,aX⟩=>⟨E,aE,T,(bh _ ((E _).2 rfl)).trans G,aj,co.mono V u x _ _ (fun _ _ h=>h) aX⟩
 | .aG o,_,h=>o.cj _ _ _ _ _ _ h V bh aR
 | .cn d o,dl,h=>by
  have e:=dl d (by simp[bb.has]);simp only[Holds] at*;rw[e];exact(o (ρ d)).cj _ _ _ _ _ _ h V bh aR
end
end
section
abbrev aY:=List (Nat×aP)
abbrev aw:=List (Nat×bb)
def dA:aY->Nat->aP
 | [],_=>.c (.one .any)
 |(t,v)::K,s=>match Nat.beq t s with
  |true=>v
  |false=>dA K s
def ag:aw->Nat->Option bb
 | [],_=>none
 |(t,v)::B,s=>match Nat.beq t s with
  |true=>some v
  |false=>ag B s
def gM:aw->Nat->aw
 | [],_=>[]
 |(t,v)::B,s=>match Nat.beq t s with
  |true=>gM B s
  |false=>(t,v)::gM B s
theorem hl (B:aw) (c d:Nat):ag (gM B c) d=if c=d then none else ag B d:=by
 induction B with
 |nil=>simp[gM,ag]
 |cons x B br=>
  obtain⟨t,v⟩:=x;unfold gM
  by_cases h:Nat.beq t c=true
  .have e:=ap6 h;subst e;rw[h];simp only[br]
   split
   .rfl
   .rename_i a2;simp only[ag];rw[show Nat.beq t d=false by rw[at4];intro h;exact a2 (ap6 h)]
  .rw[Bool.not_eq_true] at h;rw[h];simp only[ag]
   by_cases G:Nat.beq t d=true
   .have e:=ap6 G;subst e;rw[if_neg (fun e=>by subst e;simp at h)];rw[G]
   .rw[Bool.not_eq_true] at G;rw[G];simpa using br
theorem ca (B:aw) (c:Nat) (ch:bb) (d:Nat):ag ((c,ch)::B) d=if c=d then some ch else ag B d:=by
 simp only[ag]
 by_cases h:c=d
 .subst h;simp
 .rw[if_neg h,show Nat.beq c d=false by rw[at4];intro e;exact h (ap6 e)]
theorem ke (K:aY) (c:Nat) (v:aP) (d:Nat):dA ((c,v)::K) d=if c=d then v else dA K d:=by
 rw[dA.eq_def]
 by_cases h:c=d
 .subst h;simp
 .simp only[if_neg h,show Nat.beq c d=false by rw[at4];intro e;exact h (ap6 e)]
def D4 (a:Act) (s:Nat) (v:Value):Prop:=a.tmps.getD s undef=v
theorem D4.eval {a:Act} {s:Nat} {v:Value} (h:D4 a s v):a.eval (.tmp s)=v:=h
theorem Oh {a:Act} {d:Nat} {v:Value} (h:d < a.tmps.size):D4 (a.put (some d) v) d v:=by simp[D4,Act.put,h]
theorem Xy {a:Act} {d s:Nat} {v:Value} (h:d≠s):a.tmps.getD s undef=(a.put (some d) v).tmps.getD s undef:=by
 simp[Act.put,Array.getElem?_setIfInBounds_ne h]
theorem kf {a:Act} {d:Option Nat} {v:Value}:(a.put d v).tmps.size=a.tmps.size:=by cases d <;>simp[Act.put]
theorem kg {a:Act} {d:Option Nat} {v:Value}:(a.put d v).defers=a.defers:=by cases d <;>simp[Act.put]
structure e9 where
 gh:World
 yP:Nat->Prop
 p3:Nat->Prop
 ms:Nat->bn
 ds:ay5
def w0 (D:Nat):Deferred:={target:=.collected D,args:= #[]}
def bZ (C:e9) (B:aw) (F:Nat->Nat->Prop) (w:World):Nat->Prop:=fun b=>
 b < w.heap.size/\(C.yP b\/C.p3 b\/C.gh.heap.size<=b/\b∉C.ds)/\ ∀c ch,ag B c=some ch-> ¬F c b
structure Mem (ids:ay5) (C:e9) (B:aw) (ρ:Nat->bn) (F:Nat->Nat->Prop) (w:World):Prop where
 fr:cK C.p3 C.gh w
 holds: ∀c ch,ag B c=some ch->Holds ρ (bZ C B F w) (F c) w (ρ c) ch
 own: ∀c ch,ag B c=some ch-> ∀b,F c b->b < w.heap.size/\(C.p3 b\/C.gh.heap.size<=b/\b∉C.ds)
 e': ∀c bX ch ch' b,ag B c=some ch->ag B bX=some ch'->c≠bX->F c b-> ¬F bX b
 d': ∀c,c∈ids->ρ c=C.ms c
 kI:C.ds.Nodup/\(∀b,C.yP b\/C.p3 b->b < C.gh.heap.size)/\ ∀D,D∈C.ds->D < w.heap.size/\w.heap[D]? =some (.deferred (some []))/\C.gh.heap.size<=D
def ee (K:aY) (ρ:Nat->bn) (I:Nat->Prop) (a:Act) (w:World):Prop:= ∀s,cr ρ I w (dA K s) (a.tmps.getD s undef)
def eW (N:Nat) (ids:ay5) (C:e9) (K:aY) (B:aw) (a:Act) (w:World):Prop:=
 a.tmps.size=N/\a.defers=C.ds.map w0/\ ∃ρ F,Mem ids C B ρ F w/\ee K ρ (bZ C B F w) a w
theorem Mem.fresh {ids:ay5} {C:e9} {B:aw} {ρ:Nat->bn} {F:Nat->Nat->Prop} {w:World} (h:Mem ids C B ρ F w) {b:Nat} (O:w.heap.size<=b):C.gh.heap.size<=b/\b∉C.ds:=
 ⟨as9 h.fr.size O,fun J=>by have:=(h.kI.2.2 b J).1;omega⟩
theorem Mem.step {ids:ay5} {C:e9} {B B':aw} {ρ ρ':Nat->bn} {F F':Nat->Nat->Prop} {w w':World} (h:Mem ids C B ρ F w) (M D5:Nat->Prop)
  (cz:cK (fun b=> ∃c ch,ag B c=some ch/\M c/\F c b) w w')
  (qT: ∀c ch,ag B' c=some ch-> ¬M c->ag B c=some ch)
  (dl: ∀c,¬D5 c->ρ' c=ρ c) (bh: ∀c,¬M c->F' c=F c) (Ia: ∀c,c∈ids-> ¬D5 c)
  (l1: ∀c,D5 c->M c)
  (named: ∀c ch,ag B c=some ch-> ¬M c-> ∀d,ch.has d=true-> ¬D5 d)
  (new: ∀c ch,ag B' c=some ch->M c->ce (bZ C B F w) w (bZ C B' F' w') w'->Holds ρ' (bZ C B' F' w') (F' c) w' (ρ' c) ch)
  (D6: ∀c ch,ag B' c=some ch->M c-> ∀b,F' c b->b < w'.heap.size/\((∃gW cw,ag B gW=some cw/\M gW/\F gW b)\/w.heap.size<=b))
  (Xz: ∀c bX ch ch' b,ag B' c=some ch->ag B' bX=some ch'->M c->M bX->c≠bX->F' c b-> ¬F' bX b):
  Mem ids C B' ρ' F' w'/\ce (bZ C B F w) w (bZ C B' F' w') w':=by
 have aR:=h.fr.size
 have Ib:ce (bZ C B F w) w (bZ C B' F' w') w':=by
  rintro b ⟨E,G,aj⟩;refine⟨⟨Nat.lt_of_lt_of_le E cz.size,G,fun c ch H=>?_⟩,cz.block b E ?_⟩
  .by_cases aq:M c
   .intro O;obtain⟨_,dm⟩:=D6 c ch H aq b O;rcases dm with⟨gW,cw,ai,_,ao⟩ |dm
    .exact aj gW cw ai ao
    .omega
   .rw[bh c aq];exact aj c ch (qT c ch H aq)
  .rintro⟨c,ch,ai,_,ao⟩;exact aj c ch ai ao
 have XA: ∀c ch,ag B c=some ch-> ¬M c-> ∀b,F c b->w'.heap[b]? =w.heap[b]? :=fun c ch H aq b O=>
  cz.block b (h.own c ch H b O).1 (by
   rintro⟨gW,cw,ai,ao,bl⟩;exact h.e' c gW ch cw b H ai (fun e=>aq (e▸ao)) O bl)
 refine⟨⟨?_,?_,?_,?_,?_,?_⟩,Ib⟩
 .refine h.fr.trans cz ?_;rintro b O ⟨c,ch,ai,_,ao⟩;rcases(h.own c ch ai b ao).2 with h' |h'
  .exact h'
  .have:=h'.1;omega
 .intro c ch H
  by_cases aq:M c
  .exact new c ch H aq Ib
  .have ah:=qT c ch H aq;rw[bh c aq,dl c (fun hn=>aq (l1 c hn))];exact Holds.cj Ib (XA c ch ah aq) cz.size ch (fun d J=>dl d (named c ch ah aq d J)) (h.holds c ch ah)
 .intro c ch H b O
  by_cases aq:M c
  .obtain⟨E,G⟩:=D6 c ch H aq b O;refine⟨E,?_⟩;rcases G with⟨gW,cw,ai,_,ao⟩ |G
   .exact(h.own gW cw ai b ao).2
   .exact .inr (h.fresh G)
  .rw[bh c aq] at O;obtain⟨E,G⟩:=h.own c ch (qT c ch H aq) b O;exact⟨Nat.lt_of_lt_of_le E cz.size,G⟩
 .intro c bX ch ch' b H cF a2 O dm
  by_cases aq:M c
  .by_cases bN:M bX
   .exact Xz c bX ch ch' b H cF aq bN a2 O dm
   .rw[bh bX bN] at dm;have s3:=qT bX ch' cF bN;rcases(D6 c ch H aq b O).2 with⟨gW,cw,ai,bl,ao⟩ |G
    .exact h.e' gW bX cw ch' b ai s3 (fun e=>bN (e▸bl)) ao dm
    .have:=(h.own bX ch' s3 b dm).1;omega
  .rw[bh c aq] at O;have ah:=qT c ch H aq
   by_cases bN:M bX
   .rcases(D6 bX ch' cF bN b dm).2 with⟨gW,cw,ai,bl,ao⟩ |G
    .exact h.e' gW c cw ch b ai ah (fun e=>aq (e▸bl)) ao O
    .have:=(h.own c ch ah b O).1;omega
   .rw[bh bX bN] at dm;exact h.e' c bX ch ch' b ah (qT bX ch' cF bN) a2 O dm
 .intro c H;rw[dl c (Ia c H)];exact h.d' c H
 .refine⟨h.kI.1,h.kI.2.1,fun D b9=>?_⟩;obtain⟨g1,g2,cZ⟩:=h.kI.2.2 D b9;refine⟨Nat.lt_of_lt_of_le g1 cz.size,(cz.block D g1 ?_).trans g2,cZ⟩;rintro⟨c,ch,ai,_,ao⟩;rcases(h.own c ch ai D ao).2 with h' |h'
  .have:=h.kI.2.1 D (.inr h');omega
  .exact h'.2 b9
theorem Mem.below {ids:ay5} {C:e9} {B:aw} {ρ:Nat->bn} {F:Nat->Nat->Prop} {w w':World} (h:Mem ids C B ρ F w) (O:Below w.heap.size w w'):
  Mem ids C B ρ F w'/\ce (bZ C B F w) w (bZ C B F w') w':=
 h.step (fun _=>False) (fun _=>False) (cK.mo O) (fun _ _ h _=>h) (fun _ _=>rfl) (fun _ _=>rfl) (fun _ _ h=>h) (fun _ h=>h) (fun _ _ _ _ _ _ h=>h) (fun _ _ _ h=>h.elim) (fun _ _ _ h=>h.elim) (fun _ _ _ _ _ _ _ h=>h.elim)
theorem ee.mono {K:aY} {ρ ρ':Nat->bn} {I I':Nat->Prop} {a:Act} {w w':World} (h:ee K ρ I a w) (V:ce I w I' w') (dl: ∀s c,(dA K s).has c=true->ρ' c=ρ c):ee K ρ' I' a w':=
 fun s=>cr.mono V _ _ (dl s) (h s)
theorem ee.put {K:aY} {ρ:Nat->bn} {I:Nat->Prop} {a:Act} {w:World} (h:ee K ρ I a w) {d:Nat} {v:aP} {x:Value} (J:d < a.tmps.size) (ay:cr ρ I w v x):ee ((d,v)::K) ρ I (a.put (some d) x) w:=fun s=>by
 rw[ke]
 by_cases e:d=s
 .subst e;rw[if_pos rfl,show(a.put (some d) x).tmps.getD d undef=x from Oh J];exact ay
 .rw[if_neg e,<-Xy e];exact h s
def mt (d:Option Nat) (v:aP) (K:aY):aY:=match d with
 |some d=>(d,v)::K
 |none=>K
theorem ee.kh {K:aY} {ρ:Nat->bn} {I:Nat->Prop} {a:Act} {w:World} (h:ee K ρ I a w) {d:Option Nat} {v:aP} {x:Value} (J: ∀e,d=some e->e < a.tmps.size) (ay:cr ρ I w v x):ee (mt d v K) ρ I (a.put d x) w:=by
 cases d with
 |none=>exact h
 |some d=>exact h.put (J d rfl) ay
def vy:Value->bC
 | .int k n=>.d (.int k n)
 | .bool b=>.d (.lit b)
 | .string s=>.d (.str s.data.toList)
 | .slice none 0 0=>.dD
 |v=>.bJ v
theorem Oi (ρ:Nat->bn) (I:Nat->Prop) (w:World) (v:Value):dU ρ I w (vy v) v:=by
 unfold vy
 split <;>simp[dU,gF]
def D7:Value->aP
 | .agg cs=>.c (.agg (cs.toList.map vy))
 |v=>.c (.one (vy v))
theorem Oj (ρ:Nat->bn) (I:Nat->Prop) (w:World): ∀aE:List Value,b' ρ I w (aE.map vy) aE
 | []=>rfl
 |v::aE=>⟨v,aE,rfl,Oi ρ I w v,Oj ρ I w aE⟩
theorem XB (ρ:Nat->bn) (I:Nat->Prop) (w:World) (v:Value):cr ρ I w (D7 v) v:=by
 unfold D7
 split
 .rename_i cs;exact⟨cs.toList,au7,Oj ρ I w _⟩
 .exact Oi ρ I w v
def a6 (K:aY):Operand->aP
 | .tmp t=>dA K t
 | .const v=>D7 v
 | .func f=>.c (.one (.cU f []))
 | .global g=>.c (.one (.bJ (.pointer (some ⟨g,0,none⟩))))
theorem ee.get {K:aY} {ρ:Nat->bn} {I:Nat->Prop} {a:Act} {w:World} (h:ee K ρ I a w) (x:Operand):cr ρ I w (a6 K x) (a.eval x):=by
 cases x with
 |tmp t=>exact h t
 |const v=>exact XB ρ I w v
 |func f=>exact⟨[],rfl,rfl⟩
 |global g=>rfl
end
section
def yQ (a b:Int):Bool:=decide (a=b)
def yR (a b:ay4):Bool:=decide (a=b)
def fW:(u:bx)->aa u->aa u->Bool
 | .int _,a,b=>yQ a b
 | .str,a,b=>yR a b
 |_,_,_=>false
def b0 {aI aK:bx}:List (aa aI×aa aK)->aa aI->Option (aa aK)
 | [],_=>none
 |p::l,k=>match fW aI k p.1 with
  |true=>some p.2
  |false=>b0 l k
def dr {aI aK:bx}:List (aa aI×aa aK)->aa aI->aa aK->List (aa aI×aa aK)
 | [],k,x=>[(k,x)]
 |p::l,k,x=>match fW aI k p.1 with
  |true=>(k,x)::l
  |false=>p::dr l k x
def gH {aI aK:bx}:List (aa aI×aa aK)->aa aI->List (aa aI×aa aK)
 | [],_=>[]
 |p::l,k=>match fW aI k p.1 with
  |true=>l
  |false=>p::gH l k
def m0:bx->TypeDesc->Bool
 | .int k,.int dV=>k == dV
 | .str,.string=>true
 |_,_=>false
section
variable {P:Program} {I:Nat->Prop} {w:World} {aI aK:bx}
theorem rV {d:TypeDesc} (J:m0 aI d=true) (a:aa aI):MapKept.IsKey d (gG aI a):=by
 cases aI <;>cases d <;>simp[m0] at J
 .subst J;simp[gG,MapKept.IsKey]
 .simp[gG,MapKept.IsKey]
theorem Ic {d:TypeDesc} (J:m0 aI d=true) (a b:aa aI):gG aI a=gG aI b↔fW aI a b=true:=by
 cases aI <;>cases d <;>simp[m0] at J
 .have: ∀(k:IntKind) (a b:Int),Value.int k a=Value.int k b↔yQ a b=true:=fun k a b=>by simp[yQ]
  exact this _ a b
 .have: ∀(a b:ay4),Value.string ⟨List.toArray a⟩=Value.string ⟨List.toArray b⟩↔yR a b=true:=fun a b=>by simp[yR]
  exact this a b
theorem A7: ∀{l:List (aa aI×aa aK)} {es:List MapEntry},ie I w aI aK l es->es.length=l.length
 | [],_,h=>by rw[show _=[] from h];rfl
 |p::l,_,⟨e,r,h,_,_,aj⟩=>by rw[h,as5,as5,A7 aj]
theorem A8 {d:TypeDesc} (J:m0 aI d=true) (k:aa aI): ∀(l:List (aa aI×aa aK)) (es:List MapEntry) (i:Nat),ie I w aI aK l es->
  (Instr.findNow d (gG aI k) es i=some none/\b0 l k=none/\(∀x,dr l k x=l++[(k,x)])/\gH l k=l)\/
  ∃(j:Nat) (x:aa aK) (e:MapEntry),Instr.findNow d (gG aI k) es i=some (some (i+j,e.val))/\b0 l k=some x/\es[j]? =some e/\e.key=gG aI k/\jk I w aK x e.val/\(∀y,dr l k y=l.set j (k,y))/\gH l k=l.eraseIdx j
 | [],_,i,h=>by
  rw[show _=[] from h];exact .inl ⟨rfl,rfl,fun _=>rfl,rfl⟩
 |p::l,_,i,⟨e,r,h,E,G,aj⟩=>by
  subst h;obtain⟨b,O,qU⟩:=MapKept.sameNow_of_keys (rV J k) (rV J p.1);rw[<-E] at O
  cases ab:fW aI k p.1 with
  |true=>
   have lu:b=true:=qU.2 ((Ic J k p.1).2 ab);subst lu;refine .inr ⟨0,p.2,e,by simp[Instr.findNow,O],by simp[b0,ab],rfl,by rw[E];exact((Ic J k p.1).2 ab).symm,G,fun y=>by simp[dr,ab],by simp[gH,ab]⟩
  |false=>
   have XC:b=false:=by
    cases b with
    |false=>rfl
    |true=>have:=(Ic J k p.1).1 (qU.1 rfl);rw[ab] at this;cases this
   subst XC;rcases A8 J k l r (i+1) aj with⟨b4,cg,a3,a4⟩ |⟨j,x,b5,b4,cg,a3,a4,a5,gy,yS⟩
   .exact .inl ⟨by simp[Instr.findNow,O,b4],by simp[b0,ab,cg],fun y=>by simp[dr,ab,a3],by simp[gH,ab,a4]⟩
   .exact .inr ⟨j+1,x,b5,by simp[Instr.findNow,O,b4];omega,by simp[b0,ab,cg],by simpa using a3,a4,a5,fun y=>by simp[dr,ab,gy],by simp[gH,ab,yS]⟩
theorem Ok {t kt et:TypeId} {d:TypeDesc} (cq:P.underlying t=some (.map kt et)) (ab:P.underlying kt=some d) (J:m0 aI d=true) {b:Nat} {bT:List MapEntry} {bV:Nat} (O:w.heap[b]? =some (.map (List.toArray bT) bV))
  {l:List (aa aI×aa aK)} (az:ie I w aI aK l bT) {aC:Value} (aR:(zeroValue et).run P w= .ok aC w) (yT:jk I w aK (cL aK) aC) (k:aa aI) (c:Bool):
  ∃v,(Instr.lookup t (.map (some b)) (gG aI k) c).run P w= .ok (if c then .tuple #[v,.bool (b0 l k).isSome] else v) w/\jk I w aK ((b0 l k).getD (cL aK)) v:=by
 have H:=fun e=>MapKept.run_checkKey (P:=P) (w:=w) ab (rV J k) e 9999
 rcases A8 (I:=I) (w:=w) J k l bT 0 az with⟨b4,cg,_⟩ |⟨j,x,e,b4,cg,_,_,a5,_⟩
 .refine⟨aC,?_,by rw[cg];exact yT⟩;have hf:=MapKept.run_findKey (P:=P) (w:=w) ab b4;rw[cg];simp[Instr.lookup,run_underlying cq,MapKept.run_getObj_map O,H,hf,aR,Result.andThen]
 .refine⟨e.val,?_,by rw[cg];exact a5⟩;have hf:=MapKept.run_findKey (P:=P) (w:=w) ab b4;rw[cg];simp[Instr.lookup,run_underlying cq,MapKept.run_getObj_map O,H,hf,Result.andThen]
theorem Ol: ∀{l:List (aa aI×aa aK)} {es:List MapEntry},ie I w aI aK l es-> ∀{k:aa aI} {x:aa aK} {e:MapEntry},e.key=gG aI k->jk I w aK x e.val->ie I w aI aK (l++[(k,x)]) (es++[e])
 | [],_,h,k,x,e,E,G=>by rw[show _=[] from h];exact⟨e,[],rfl,E,G,rfl⟩
 |p::l,_,⟨b5,r,h,b4,cg,a3⟩,k,x,e,E,G=>by rw[h];exact⟨b5,r++[e],rfl,b4,cg,Ol a3 E G⟩
theorem Om: ∀{l:List (aa aI×aa aK)} {es:List MapEntry},ie I w aI aK l es-> ∀{k:aa aI} {x:aa aK} {e:MapEntry} (j:Nat),e.key=gG aI k->jk I w aK x e.val->ie I w aI aK (l.set j (k,x)) (es.set j e)
 | [],_,h,k,x,e,j,E,G=>by rw[show _=[] from h];rfl
 |p::l,_,⟨b5,r,h,b4,cg,a3⟩,k,x,e,0,E,G=>by rw[h];exact⟨e,r,rfl,E,G,a3⟩
 |p::l,_,⟨b5,r,h,b4,cg,a3⟩,k,x,e,j+1,E,G=>by rw[h];exact⟨b5,r.set j e,rfl,b4,cg,Om a3 j E G⟩
theorem On: ∀{l:List (aa aI×aa aK)} {es:List MapEntry},ie I w aI aK l es-> ∀(j:Nat),ie I w aI aK (l.eraseIdx j) (es.eraseIdx j)
 | [],_,h,j=>by rw[show _=[] from h];rfl
 |p::l,_,⟨b5,r,h,b4,cg,a3⟩,0=>by rw[h];exact a3
 |p::l,_,⟨b5,r,h,b4,cg,a3⟩,j+1=>by rw[h];exact⟨b5,r.eraseIdx j,rfl,b4,cg,On a3 j⟩
theorem Oo {es:List MapEntry} {c:Nat} (h:lZ es c) (key val:Value):lZ (es++[⟨key,val,c⟩]) (c+1):=by
 refine⟨?_,fun e V=>?_⟩
 .rw[as3,List.pairwise_append];refine⟨h.1,au7,fun a ha b O=>?_⟩;obtain⟨e,V,rfl⟩:=ar2.1 ha;simp only[aq4,au0,aq2] at O;subst O;exact h.2 e V
 .rcases aq8.1 V with V |V
  .have:=h.2 e V;omega
  .simp only[aq2] at V;subst V;simp
theorem XD {es:List MapEntry} {c:Nat} (h:lZ es c) {j:Nat} {bG e:MapEntry} (Z:es[j]? =some bG) (O:e.born=bG.born):lZ (es.set j e) c:=by
 have az:(es.set j e).map (·.born)=es.map (·.born):=by
  rw[List.map_set];refine List.ext_getElem? fun i=>?_
  rw[List.getElem?_set]
  split
  .rename_i aH;subst aH;have:=(ap5.1 Z).1;rw[if_pos (by simpa using this),ar0,Z,O];rfl
  .rfl
 refine⟨by rw[az];exact h.1,fun x hx=>?_⟩;have E:x.born∈(es.set j e).map (·.born):=aq6 hx;rw[az] at E;obtain⟨y,aB,XE⟩:=ar2.1 E;rw[<-XE];exact h.2 y aB
theorem XF {es:List MapEntry} {c:Nat} (h:lZ es c) (j:Nat):lZ (es.eraseIdx j) c:=
 ⟨h.1.sublist ((List.eraseIdx_sublist es j).map _),fun e V=>h.2 e ((List.eraseIdx_sublist es j).subset V)⟩
theorem XG (a:aa aI) {d:TypeDesc} (J:m0 aI d=true) (n:Nat):Instr.sameBits (n+1) (gG aI a) (gG aI a)=true:=by
 cases aI <;>cases d <;>simp[m0] at J
 .have: ∀(k:IntKind) (a:Int),Instr.sameBits (n+1) (.int k a) (.int k a)=true:=fun k a=>by simp[Instr.sameBits]
  exact this _ a
 .simp only[gG,Instr.sameBits];exact(MapKept.bytes_beq _ _).2 rfl
theorem A9 {t kt et:TypeId} {d:TypeDesc} (cq:P.underlying t=some (.map kt et)) (ab:P.underlying kt=some d) (J:m0 aI d=true) {b:Nat} {bT:List MapEntry} {bV:Nat} (O:w.heap[b]? =some (.map (List.toArray bT) bV))
  {l:List (aa aI×aa aK)} (az:ie I w aI aK l bT) (da:lZ bT bV) (k:aa aI) {x:aa aK} {v:Value} (ay:jk I w aK x v):
  ∃en jD,(Instr.mapUpdate t (.map (some b)) (gG aI k) v).run P w= .ok () {w with heap:=w.heap.setIfInBounds b (.map (List.toArray en) jD)}/\ie I w aI aK (dr l k x) en/\lZ en jD:=by
 have H:=fun e=>MapKept.run_checkKey (P:=P) (w:=w) ab (rV J k) e 9999
 have ez:=fun o=>MapKept.run_setObj_map (P:=P) o O
 rcases A8 (I:=I) (w:=w) J k l bT 0 az with⟨b4,cg,a3,_⟩ |⟨j,y,e,b4,cg,a3,a4,a5,gy,_⟩
 .have hf:=MapKept.run_findKey (P:=P) (w:=w) ab b4;refine⟨bT++[⟨gG aI k,v,bV⟩],bV+1,?_,by rw[a3];exact Ol az rfl ay,Oo da _ _⟩;simp[Instr.mapUpdate,run_underlying cq,MapKept.run_getObj_map O,H,hf,ez,Result.andThen]
 .have hf:=MapKept.run_findKey (P:=P) (w:=w) ab b4;have rU:=(ap5.1 a3).1;refine⟨bT.set j ⟨gG aI k,v,e.born⟩,bV,?_,by rw[gy];exact Om az j rfl ay,XD da a3 rfl⟩
  have Oq:bT.modify j (fun b5=>{b5 with key:=gG aI k,val:=v})=bT.set j ⟨gG aI k,v,e.born⟩:=by
   refine List.ext_getElem? fun i=>?_
   rw[List.getElem?_modify,List.getElem?_set]
   by_cases gI:j=i
   .subst gI;have V:=(ap5.1 a3).2;simp[rU,V]
   .simp[gI]
  simp[Instr.mapUpdate,run_underlying cq,MapKept.run_getObj_map O,H,hf,ez,Result.andThen,a3,a4,Instr.keyThatStays,XG k J,Oq]
theorem Ot {t kt et ty:TypeId} {d:TypeDesc} (cq:P.underlying t=some (.map kt et)) (ab:P.underlying kt=some d) (J:m0 aI d=true) {b:Nat} {bT:List MapEntry} {bV:Nat} (O:w.heap[b]? =some (.map (List.toArray bT) bV))
  {l:List (aa aI×aa aK)} (az:ie I w aI aK l bT) (da:lZ bT bV) (k:aa aI) (XH:TypeId):
  ∃en,(Builtin.delete_ #[t,XH] ty #[.map (some b),gG aI k]).run P w= .ok (.tuple #[]) {w with heap:=w.heap.setIfInBounds b (.map (List.toArray en) bV)}/\ie I w aI aK (gH l k) en/\lZ en bV:=by
 have H:=fun e=>MapKept.run_checkKey (P:=P) (w:=w) ab (rV J k) e 9999
 have ez:=fun o=>MapKept.run_setObj_map (P:=P) o O
 rcases A8 (I:=I) (w:=w) J k l bT 0 az with⟨b4,cg,_,a3⟩ |⟨j,y,e,b4,cg,a3,a4,a5,_,gy⟩
 .have hf:=MapKept.run_findKey (P:=P) (w:=w) ab b4;refine⟨bT,?_,by rw[a3];exact az,da⟩;simp[Builtin.delete_,run_underlying cq,MapKept.run_getObj_map O,H,hf,ez,Result.andThen]
 .have hf:=MapKept.run_findKey (P:=P) (w:=w) ab b4;have rU:=(ap5.1 a3).1;refine⟨bT.eraseIdx j,?_,by rw[gy];exact On az j,XF da j⟩
  have XI:(List.toArray bT).eraseIdxIfInBounds j=List.toArray (bT.eraseIdx j):=by
   apply Array.ext';unfold Array.eraseIdxIfInBounds;rw[dif_pos (by simpa using rU)];simp
  simp[Builtin.delete_,run_underlying cq,MapKept.run_getObj_map O,H,hf,ez,Result.andThen,XI]
theorem XJ {t:TypeId}:(Instr.makeMap t none).run P w= .ok (.map (some w.heap.size)) (w.alloc (.map #[] 0)):=by
 simp only[Instr.makeMap,Sem.run_bind,run_newObj_alloc,Result.andThen,Sem.run_pure]
end
end
end Go.Proofs.YthnboghbhgapcaaGreat
