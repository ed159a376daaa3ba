/-
Part 1 of the proof that stands in YteoamepgonpdlaaGreatPcRow, with what it needs from the parts ahead; the parts of this text: Base, U, Mp.
-/
import Derived.WalkKit
import Derived.WalkSpells
import Derived.WalkLawsBesides
import Derived.BigQuiet
import Derived.Deep.QuietTactic
import Derived.Deep.RegionHeld3
import Derived.Deep.AppendLies
import Derived.Deep.DrawnRows
import Derived.Maps.AppendAt
import Derived.Laws.CopyOwn
import Derived.Lib.ConvBytes
import Derived.Lib.Hide
import Derived.RangeFuncRecord
import Derived.OrdersIn
import Derived.TacticsIn
import Derived.Sort.LoopGhostIn
import Derived.MapKept
import Derived.ChangeMaps4
set_option linter.unusedVariables false
set_option linter.unusedSimpArgs false
set_option maxRecDepth 10000
namespace Go.Proofs.YteoamepgonpdlaaGreat
open Go.RowKit
structure Fr (S:Nat→Prop) (w w':World):Prop where
 os:w'.os=w.os
 tape:w'.tape=w.tape
 output:w'.output=w.output
 size:w.heap.size≤w'.heap.size
 block: ∀k,k < w.heap.size→ ¬S k→w'.heap[k]? =w.heap[k]?
theorem Fr.refl (S:Nat→Prop) (w:World):Fr S w w:=⟨rfl,rfl,rfl,Nat.le_refl _,fun _ _ _=>rfl⟩
theorem Fr.trans {S:Nat→Prop} {a b c:World} (h:Fr S a b) {S':Nat→Prop} (k:Fr S' b c) (hs: ∀i,i < a.heap.size→S' i→S i):Fr S a c:=
 ⟨k.os.trans h.os,k.tape.trans h.tape,k.output.trans h.output,Nat.le_trans h.size k.size,
  fun i aD hn=>(k.block i (Nat.lt_of_lt_of_le aD h.size) (fun x=>hn (hs i aD x))).trans (h.block i aD hn)⟩
theorem Fr.mono {S S':Nat→Prop} {w w':World} (h:Fr S w w') (hs: ∀i,i < w.heap.size→S i→S' i):Fr S' w w':=
 ⟨h.os,h.tape,h.output,h.size,fun i aD hn=>h.block i aD (fun x=>hn (hs i aD x))⟩
theorem Fr.qU {S:Nat→Prop} {w w':World} (h:Below w.heap.size w w'):Fr S w w':=
 ⟨h.os,h.tape,h.output,h.size,fun i aD _=>h.block i aD⟩
theorem Fr.below {S:Nat→Prop} {B:Nat} {w w':World} (h:Fr S w w') (dy:B≤w.heap.size) (hs: ∀i,i < B→ ¬S i):Below B w w':=
 ⟨h.os,h.tape,h.output,h.size,fun i aD=>h.block i (by omega) (hs i aD)⟩
theorem Fr.cell {S:Nat→Prop} {w w':World} (h:Fr S w w') {p:Addr} {v:Value} (hp:w.cell? p=some v) (hs: ¬S p.block):w'.cell? p=some v:=
 (World.cell?_of_block (h.block p.block (World.block_lt_of_cell? w p hp) hs)).trans hp
theorem pE {w:World} {b:Nat} {o:Obj} (h:w.heap[b]? =some o):b < w.heap.size:=by
 rcases Nat.lt_or_ge b w.heap.size with bF |qi
 ·exact bF
 ·rw[Array.getElem?_eq_none qi] at h;cases h
def fF (D:Nat→Prop) (w:World) (size:Nat) (v:Value) (n:Nat) (xs:List Value):Prop:=
 xs.length=n*size∧ ∃A c,v= .slice A n c∧n≤c∧c≤maxLen∧
  (0 < n→ ∃b o,A=some ⟨b,o,none⟩∧D b∧b < w.heap.size∧ ∀j u,xs[j]? =some u→w.cell? ⟨b,o+j,none⟩=some u)
def lB (D:Nat→Prop) (w w':World):Prop:= ∀i,i < w.heap.size→D i→w'.heap[i]? =w.heap[i]?
theorem lB.refl (D:Nat→Prop) (w:World):lB D w w:=fun _ _ _=>rfl
theorem lB.cell {D:Nat→Prop} {w w':World} (h:lB D w w') {p:Addr} {v:Value} (hp:w.cell? p=some v) (hs:D p.block):w'.cell? p=some v:=
 (World.cell?_of_block (h p.block (World.block_lt_of_cell? w p hp) hs)).trans hp
theorem lB.qU {D:Nat→Prop} {w w':World} (h:Below w.heap.size w w'):lB D w w':=fun i aD _=>h.block i aD
theorem fF.mono {D j6:Nat→Prop} {w w':World} {size n:Nat} {v:Value} {xs:List Value} (h:fF D w size v n xs) (aq:lB D w w') (hw:w.heap.size≤w'.heap.size) (hd: ∀i,i < w.heap.size→D i→j6 i):fF j6 w' size v n xs:=by
 obtain⟨aB,A,c,rfl,aa,af,ay⟩:=h
 refine⟨aB,A,c,rfl,aa,af,fun hn=>?_⟩
 obtain⟨b,o,rfl,cq,ag,hc⟩:=ay hn
 exact⟨b,o,rfl,hd b ag cq,by omega,fun j u au=>aq.cell (hc j u au) cq⟩
theorem fF.nil (D:Nat→Prop) (w:World) (size:Nat):fF D w size (.slice none 0 0) 0 []:=⟨by simp,none,0,rfl,Nat.le_refl _,by decide,fun h=>absurd h (by omega)⟩
theorem fF.at_ {D:Nat→Prop} {w:World} {size n:Nat} {v:Value} {xs:List Value} (h:fF D w size v n xs) (hn:0 < n):
  ∃b o c,v= .slice (some ⟨b,o,none⟩) n c∧n≤c∧c≤maxLen∧D b∧b < w.heap.size∧ ∀j u,xs[j]? =some u→w.cell? ⟨b,o+j,none⟩=some u:=by
 obtain⟨aB,A,c,rfl,aa,af,ay⟩:=h
 obtain⟨b,o,rfl,cq,ag,hc⟩:=ay hn
 exact⟨b,o,c,rfl,aa,af,cq,ag,hc⟩
def iM (c:UInt8):Value:=.int .u8 c.toNat
def Bytes (D:Nat→Prop) (w:World) (v:Value) (l:List UInt8):Prop:=fF D w 1 v l.length (l.map iM)
theorem Bytes.mono {D j6:Nat→Prop} {w w':World} {v:Value} {l:List UInt8} (h:Bytes D w v l) (aq:lB D w w') (hw:w.heap.size≤w'.heap.size) (hd: ∀i,i < w.heap.size→D i→j6 i):Bytes j6 w' v l:=fF.mono h aq hw hd
def kV {α:Type} (R:World→α→List Value→Prop) (w:World):List α→List Value→Prop
 | [],xs=>xs=[]
 |a::l,xs=> ∃c r,xs=c++r∧R w a c∧kV R w l r
theorem kV.mono {α:Type} {R R':World→α→List Value→Prop} {w w':World} (h: ∀a c,R w a c→R' w' a c): ∀(l:List α) (xs:List Value),kV R w l xs→kV R' w' l xs
 | [],_,hx=>hx
 |_::l,_,⟨c,r,hx,hc,hr⟩=>⟨c,r,hx,h _ _ hc,kV.mono h l r hr⟩
theorem kV.get {α:Type} {R:World→α→List Value→Prop} {w:World} {s:Nat} (hs: ∀a c,R w a c→c.length=s): ∀(l:List α) (xs:List Value),kV R w l xs→ ∀(k:Nat) (aq:k < l.length),
  ∃c,R w l[k] c∧ ∀j,j < s→xs[k*s+j]? =c[j]?
 |a::l,_,⟨c,r,hx,hc,hr⟩,0,_=>⟨c,hc,fun j au=>by rw[hx,Nat.zero_mul,Nat.zero_add,List.getElem?_append_left (by rw[hs _ _ hc];exact au)]⟩
 |a::l,_,⟨c,r,hx,hc,hr⟩,k+1,aq=>by
  obtain⟨bS,dm,au⟩:=kV.get hs l r hr k (by simpa using aq)
  refine⟨bS,dm,fun j h=>?_⟩
  have:=hs _ _ hc
  rw[hx,List.getElem?_append_right (by rw[this,Nat.add_mul];omega),←au j h]
  congr 1
  rw[this,Nat.add_mul]
  omega
theorem kV.length {α:Type} {R:World→α→List Value→Prop} {w:World} {s:Nat} (hs: ∀a c,R w a c→c.length=s): ∀(l:List α) (xs:List Value),kV R w l xs→xs.length=l.length*s
 | [],xs,hx=>by cases hx;simp
 |a::l,_,⟨c,r,hx,hc,hr⟩=>by rw[hx,List.length_append,hs _ _ hc,kV.length hs l r hr,List.length_cons,Nat.add_mul];omega
structure l7 where
 C:Int
 B:List UInt8
structure FC where
 name:ByteArray
 parent:ByteArray
 bits:Int
 size:Int
 pieces:List l7
def sW (D:Nat→Prop) (w:World) (p:l7) (c:List Value):Prop:= ∃bv,c=[.int .i64 p.C,bv]∧Bytes D w bv p.B
def pF (D:Nat→Prop) (w:World) (v:Value) (l:List l7):Prop:= ∃xs,fF D w 2 v l.length xs∧kV (sW D) w l xs
def AD (D:Nat→Prop) (w:World) (b:FC) (c:List Value):Prop:=
 ∃pv,c=[.string b.name,.string b.parent,.int .i64 b.bits,.int .i64 b.size,pv]∧pF D w pv b.pieces
theorem sW.mono {D j6:Nat→Prop} {w w':World} (aq:lB D w w') (hw:w.heap.size≤w'.heap.size) (hd: ∀i,i < w.heap.size→D i→j6 i) (p:l7) (c:List Value) (h:sW D w p c):sW j6 w' p c:=by
 obtain⟨bv,hc,ag⟩:=h
 exact⟨bv,hc,ag.mono aq hw hd⟩
theorem pF.mono {D j6:Nat→Prop} {w w':World} {v:Value} {l:List l7} (h:pF D w v l) (aq:lB D w w') (hw:w.heap.size≤w'.heap.size) (hd: ∀i,i < w.heap.size→D i→j6 i):pF j6 w' v l:=by
 obtain⟨xs,aa,af⟩:=h
 exact⟨xs,aa.mono aq hw hd,kV.mono (sW.mono aq hw hd) l xs af⟩
theorem AD.mono {D j6:Nat→Prop} {w w':World} (aq:lB D w w') (hw:w.heap.size≤w'.heap.size) (hd: ∀i,i < w.heap.size→D i→j6 i) (b:FC) (c:List Value) (h:AD D w b c):AD j6 w' b c:=by
 obtain⟨pv,hc,hp⟩:=h
 exact⟨pv,hc,hp.mono aq hw hd⟩
theorem sW.len {D:Nat→Prop} {w:World} (p:l7) (c:List Value) (h:sW D w p c):c.length=2:=by obtain⟨bv,rfl,_⟩:=h;rfl
theorem AD.len {D:Nat→Prop} {w:World} (b:FC) (c:List Value) (h:AD D w b c):c.length=5:=by obtain⟨pv,rfl,_⟩:=h;rfl
theorem pF.at_ {D:Nat→Prop} {w:World} {A:Option Addr} {n c:Nat} {l:List l7} (h:pF D w (.slice A n c) l) {k:Nat} (aq:k < n):
  n=l.length∧ ∃b o bv,∃FD:k < l.length,A=some ⟨b,o,none⟩∧D b∧b < w.heap.size∧w.cell? ⟨b,o+k*2,none⟩=some (.int .i64 (l[k]'FD).C)∧w.cell? ⟨b,o+k*2+1,none⟩=some bv∧Bytes D w bv (l[k]'FD).B:=by
 obtain⟨xs,⟨aB,uo,bS,he,_,_,ay⟩,hr⟩:=h
 injection he with aj ak bf
 subst aj ak bf
 obtain⟨b,o,rfl,cq,ag,hc⟩:=ay (by omega)
 obtain⟨cs,⟨bv,rfl,dy⟩,au⟩:=kV.get sW.len l xs hr k aq
 refine⟨rfl,b,o,bv,aq,rfl,cq,ag,?_,?_,dy⟩
 ·exact hc (k*2) _ (by simpa using au 0 (by omega))
 ·have:=hc (k*2+1) _ (by simpa using au 1 (by omega))
  simpa[Nat.add_assoc] using this
theorem pF.form {D:Nat→Prop} {w:World} {v:Value} {l:List l7} (h:pF D w v l): ∃A c,v= .slice A l.length c∧l.length≤c∧c≤maxLen:=by
 obtain⟨xs,⟨_,A,c,rfl,aa,af,_⟩,_⟩:=h
 exact⟨A,c,rfl,aa,af⟩
theorem Bytes.form {D:Nat→Prop} {w:World} {v:Value} {l:List UInt8} (h:Bytes D w v l): ∃A c,v= .slice A l.length c∧l.length≤c∧c≤maxLen:=by
 obtain⟨_,A,c,rfl,aa,af,_⟩:=h
 exact⟨A,c,rfl,aa,af⟩
theorem qV (b o j:Nat):(⟨b,o,none⟩:Addr).add j=⟨b,o+j,none⟩:=by
 unfold Addr.add
 split
 ·rename_i h;subst h;rfl
 ·rfl
theorem QZ {P:Program} (w:World) (base:Nat) (t ty e:TypeId) (i:TypeInfo) (size:Nat) (cc:P.underlying t=some (.slice e)) (aD:P.info? e=some i)
  (v:Value) (n:Nat) (xs:List Value) (dD:w.ownsRow base e size v n xs) (c:Nat):(Builtin.append_ #[t,t] ty #[v,.slice none 0 c]).run P w= .ok v w:=by
 rcases dD.2 with⟨rfl,rfl⟩ |⟨g,cap,cur,rfl,_,_,AE,_⟩
 ·simp[Builtin.append_,run_underlying cc,sizeOf,typeInfo,aD,Builtin.lenOf,Builtin.firstCells]
 ·simp[Builtin.append_,run_underlying cc,sizeOf,typeInfo,aD,Builtin.lenOf,Builtin.firstCells,AE,storeCells]
theorem KH {P:Program} (w:World) (base:Nat) (t ty e:TypeId) (i:TypeInfo) (z:Value) (size bytes:Nat) (cc:P.underlying t=some (.slice e)) (aD:P.info? e=some i) (aS:i.zero=some z)
  (Q0:i.size=size) (AF:i.bytes=bytes) (vI:z.cells.size=size) (dH:0 < size)
  (v:Value) (n:Nat) (xs:List Value) (dD:w.ownsRow base e size v n xs)
  (D:Nat→Prop) (src:Value) (m:Nat) (news:List Value) (hr:fF D w size src m news) (aa: ∀u∈news,u.oneCell'=true)
  (Q1:n+m≤maxLen) (Q2:(n+m)*bytes≤140737488355328) (Q3:base≤w.heap.size):
  ∃v' w',(Builtin.append_ #[t,t] ty #[v,src]).run P w= .ok v' w'∧w'.ownsRow base e size v' (n+m) (xs++news)∧w.grownBy w' v.ownBlock∧
   (v'.ownBlock=v.ownBlock∨v'.ownBlock=some w.heap.size):=by
 obtain⟨aB,A,c,rfl,_,_,ay⟩:=hr
 rcases A with _ |ad
 ·have hm:m=0:=by
   rcases Nat.eq_zero_or_pos m with aE |aE
   ·exact aE
   ·obtain⟨b,o,h,_⟩:=ay aE
    cases h
  subst hm
  have hn:news=[]:=List.eq_nil_of_length_eq_zero (by simpa using aB)
  subst hn
  exact⟨v,w,QZ w base t ty e i size cc aD v n xs dD c,by simpa using dD,World.grownBy.refl w _,.inl rfl⟩
 ·have wW: ∀j u,news[j]? =some u→w.cell? (ad.add j)=some u:=by
   intro j u hu
   rcases Nat.eq_zero_or_pos m with aE |aE
   ·subst aE
    have hn:news=[]:=List.eq_nil_of_length_eq_zero (by simpa using aB)
    subst hn
    simp at hu
   ·obtain⟨b,o,h,_,_,hc⟩:=ay aE
    injection h with h
    subst h
    rw[qV]
    exact hc j u hu
  obtain⟨v',w',ep,af,bu,_,dI⟩:=run_append_own_at (P:=P) w base t ty e i z size bytes cc aD aS Q0 AF vI dH v n xs dD ad m c news aB wW aa Q1 Q2 Q3
  exact⟨v',w',ep,af,bu,dI⟩
theorem Q4 (l:List UInt8): ∀u∈l.map iM,u.oneCell'=true:=by
 intro u hu
 obtain⟨c,_,rfl⟩:=List.mem_map.1 hu
 rfl
theorem fF.vJ {w:World} {base:Nat} {e:TypeId} {size n:Nat} {v:Value} {xs:List Value} (h:w.ownsRow base e size v n xs):fF (fun i=>v.ownBlock=some i) w size v n xs:=by
 refine⟨h.1,?_⟩
 rcases h.2 with⟨rfl,rfl⟩ |⟨g,cap,cur,rfl,bk,bZ,aa,af,ay,bu⟩
 ·exact⟨none,0,rfl,Nat.le_refl _,by decide,fun h=>absurd h (by omega)⟩
 ·refine⟨_,cap,rfl,aa,af,fun _=>⟨g,0,rfl,rfl,(h.lt g rfl).2,fun j u au=>?_⟩⟩
  have:=h.cells (g:=g) rfl j u au
  rwa[qV] at this
theorem fF.weaken {D j6:Nat→Prop} {w:World} {size n:Nat} {v:Value} {xs:List Value} (h:fF D w size v n xs) (hd: ∀i,i < w.heap.size→D i→j6 i):fF j6 w size v n xs:=h.mono (lB.refl _ _) (Nat.le_refl _) hd
theorem keep {W b9:World} (ag:Below W.heap.size W b9) {p:Addr} {v:Value} (h:W.cell? p=some v):b9.cell? p=some v:=
 (ag.cell (World.block_lt_of_cell? W p h)).trans h
def nN (w:World) (g:Nat) (l:List Value):Prop:= ∃t,w.heap[g]? =some (.cells l.toArray t (0,0))
theorem nN.c {w:World} {g:Nat} {l:List Value} (h:nN w g l) (j:Nat) (u:Value) (au:l[j]? =some u):w.cell? ⟨g,j,none⟩=some u:=by
 obtain⟨t,h⟩:=h
 simp[World.cell?,h,au]
theorem nN.keep {W b9:World} (ag:Below W.heap.size W b9) {g:Nat} {l:List Value} (h:nN W g l):nN b9 g l:=by
 obtain⟨t,h⟩:=h
 exact⟨t,(ag.block g (pE h)).trans h⟩
theorem nN.gD {W b9:World} {g:Nat} {l:List Value} (h:nN W g l) (ag:b9.heap[g]? =W.heap[g]?):nN b9 g l:=by
 obtain⟨t,h⟩:=h
 exact⟨t,ag.trans h⟩
theorem nN.lt {w:World} {g:Nat} {l:List Value} (h:nN w g l):g < w.heap.size:=by
 obtain⟨t,h⟩:=h
 exact pE h
theorem nN.set {w:World} {g:Nat} {l:List Value} (h:nN w g l) (j:Nat) (u:Value):nN (w.setCell ⟨g,j,none⟩ u) g (l.set j u):=by
 obtain⟨t,h⟩:=h
 refine⟨t,?_⟩
 simp[World.setCell,Array.getElem?_modify,h]
theorem nN.other {w:World} {g:Nat} {l:List Value} (h:nN w g l) {p:Addr} (hp:g≠p.block) (u:Value):nN (w.setCell p u) g l:=h.gD (Below.heap_setCell w p u g hp)
theorem pF.below {D:Nat→Prop} {w w':World} {v:Value} {l:List l7} (h:pF D w v l) (ag:Below w.heap.size w w'):pF D w' v l:=
 h.mono (lB.qU ag) ag.size fun _ _ h=>h
theorem Bytes.below {D:Nat→Prop} {w w':World} {v:Value} {l:List UInt8} (h:Bytes D w v l) (ag:Below w.heap.size w w'):Bytes D w' v l:=
 h.mono (lB.qU ag) ag.size fun _ _ h=>h
theorem fF.below {D:Nat→Prop} {w w':World} {size n:Nat} {v:Value} {xs:List Value} (h:fF D w size v n xs) (ag:Below w.heap.size w w'):fF D w' size v n xs:=
 h.mono (lB.qU ag) ag.size fun _ _ h=>h
theorem uq (w:World) (o:Obj):Below w.heap.size w (w.alloc o):=(Below.refl _ _).alloc (Nat.le_refl _) _
theorem Q5 (w:World):Below w.heap.size w w.drew:=(Below.refl _ _).drew
def Q6 {α:Type} (R:(Nat→Prop)→World→α→List Value→Prop):Prop:=
 ∀(D j6:Nat→Prop) (w w':World),lB D w w'→w.heap.size≤w'.heap.size→(∀i,i < w.heap.size→D i→j6 i)→ ∀a c,R D w a c→R j6 w' a c
def bl (B:Nat) (v:Value):Nat→Prop:=fun i=>B≤i∧v.ownBlock≠some i
def wX {α:Type} (R:(Nat→Prop)→World→α→List Value→Prop) (T s:Nat) (w:World) (B:Nat) (v:Value) (l:List α):Prop:=
 ∃xs,w.ownsRow B T s v l.length xs∧kV (R (bl B v)) w l xs
theorem wX.nil {α:Type} (R:(Nat→Prop)→World→α→List Value→Prop) (T s:Nat) (w:World) (B:Nat):wX R T s w B (.slice none 0 0) []:=⟨[],World.ownsRow_nil _ _ _ _,rfl⟩
theorem Q7 {w w':World} {base:Nat} {e:TypeId} {size n:Nat} {v:Value} {xs:List Value} (h:w.ownsRow base e size v n xs) (ag:Below w.heap.size w w'):w'.ownsRow base e size v n xs:=
 h.kept (row:=none) ⟨ag.os,ag.tape,ag.output,ag.size,fun k aq _=>ag.block k aq⟩ (by cases v.ownBlock <;>simp)
theorem wX.below {α:Type} {R:(Nat→Prop)→World→α→List Value→Prop} (hR:Q6 R) {T s:Nat} {w w':World} {B:Nat} {v:Value} {l:List α} (h:wX R T s w B v l) (ag:Below w.heap.size w w'):wX R T s w' B v l:=by
 obtain⟨xs,aa,af⟩:=h
 exact⟨xs,Q7 aa ag,kV.mono (fun a c hc=>hR _ _ _ _ (lB.qU ag) ag.size (fun _ _ h=>h) a c hc) l xs af⟩
theorem wX.pieces {T:Nat} {w:World} {B:Nat} {v:Value} {l:List l7} (h:wX sW T 2 w B v l):pF (fun i=>B≤i) w v l:=by
 obtain⟨xs,aa,af⟩:=h
 exact⟨xs,(fF.vJ aa).weaken fun i _ aD=>(aa.lt i aD).1,kV.mono (fun a c hc=>sW.mono (lB.refl _ _) (Nat.le_refl _) (fun i _ aD=>aD.1) a c hc) l xs af⟩
theorem pF.get {D:Nat→Prop} {w:World} {A:Option Addr} {n c:Nat} {l:List l7} (h:pF D w (.slice A n c) l) {k:Nat} {p:l7} (hx:l[k]? =some p):
  ∃b o uo bS,A=some ⟨b,o,none⟩∧D b∧b < w.heap.size∧w.cell? ⟨b,o+k*2,none⟩=some (.int .i64 p.C)∧w.cell? ⟨b,o+k*2+1,none⟩=some (.slice uo p.B.length bS)∧Bytes D w (.slice uo p.B.length bS) p.B∧p.B.length≤bS∧bS≤maxLen:=by
 obtain⟨aq,rfl⟩:=List.getElem?_eq_some_iff.1 hx
 have hn:n=l.length:=by obtain⟨uo,bS,he,_,_⟩:=h.form;injection he
 obtain⟨-,b,o,bv,FD,rfl,cq,ag,cx,aW,dy⟩:=h.at_ (k:=k) (by omega)
 obtain⟨uo,bS,rfl,aa,af⟩:=dy.form
 exact⟨b,o,uo,bS,rfl,cq,ag,cx,aW,dy,aa,af⟩
theorem fF.drew {D:Nat→Prop} {w:World} {size n:Nat} {v:Value} {xs:List Value} (h:fF D w size v n xs):fF D w.drew size v n xs:=h
theorem Q8 {w w':World} {row:Option Nat} {S:Nat→Prop} (bk:w.grownBy w' row) (hr: ∀k,row=some k→S k):Fr S w w':=
 ⟨bk.os,bk.tape,bk.output,bk.size,fun k aq hn=>bk.block k aq (fun e=>hn (hr k e.symm))⟩
theorem Q9 {D:Nat→Prop} {w:World} {m:Nat} {src:Value} {ys:List Value} (h:fF D w 1 src m ys) (ur:Nat):
  ∃sp CK,src= .slice sp m CK∧(ys.take ur).length=Nat.min m ur∧(0 < (ys.take ur).length→ ∃ad,sp=some ad∧ ∀j v,(ys.take ur)[j]? =some v→w.cell? (ad.add j)=some v):=by
 obtain⟨aB,A,c,rfl,_,_,ay⟩:=h
 have rV:ys.length=m:=by omega
 have FE:(ys.take ur).length=Nat.min m ur:=by rw[List.length_take,rV];exact Nat.min_comm _ _
 refine⟨A,c,rfl,FE,fun hp=>?_⟩
 have hm:0 < m:=by
  have:=Nat.min_le_left m ur
  have e:min m ur=Nat.min m ur:=rfl
  omega
 obtain⟨b,o,rfl,_,_,hc⟩:=ay hm
 refine⟨_,rfl,fun j v au=>?_⟩
 rw[qV]
 refine hc j v ?_
 rw[List.getElem?_take] at au
 split at au
 ·exact au
 ·cases au
theorem Ra {P:Program} (w:World) (src dst e:TypeId) (s:ByteArray) (hs:P.underlying src=some .string) (hd:P.underlying dst=some (.slice e)) (he:P.underlying e=some (.int .u8)) (hm:s.size≤4294967296):
  ∃cap b9,(convert src dst (.string s)).run P w= .ok (.slice (some ⟨w.heap.size,0,none⟩) s.size cap) b9∧Bytes (fun i=>w.heap.size≤i) b9 (.slice (some ⟨w.heap.size,0,none⟩) s.size cap) s.data.toList∧Below w.heap.size w b9:=by
 refine⟨_,_,Lib.run_convert_string_bytes w src dst e s hs hd he,?_,?_⟩
 ·have aB:s.data.toList.length=s.size:=by simp
  unfold Bytes
  rw[aB]
  refine⟨by rw[List.length_map,aB];omega,_,_,rfl,grownCap_ge _ _ _ _,grownCap_le_maxLen _ _ _ _ (by simp only[maxLen];omega),fun _=>⟨_,0,rfl,Nat.le_refl _,by rw[Lib.bytesWorld_size];omega,fun j u au=>?_⟩⟩
  have oK:j < s.data.toList.length:=by
   have:=(List.getElem?_eq_some_iff.1 au).1
   simpa using this
  rw[Nat.zero_add,Lib.bytesWorld_cell w e s j (by omega)]
  rw[List.getElem?_map,List.getElem?_eq_getElem oK] at au
  simp only[Option.map_some,Option.some.injEq] at au
  rw[←au,List.getD_eq_getElem?_getD,List.getElem?_eq_getElem oK]
  rfl
 ·exact⟨rfl,rfl,rfl,by rw[Lib.bytesWorld_size];omega,fun k aq=>Lib.bytesWorld_at_old w e s k aq⟩
theorem KI {P:Program} {D:Nat→Prop} {w:World} {A:Option Addr} {n c:Nat} {l:List UInt8} (h:Bytes D w (.slice A n c) l) (src dst e:TypeId) (hs:P.underlying src=some (.slice e)) (he:P.underlying e=some (.int .u8)) (hd:P.underlying dst=some .string):
  (convert src dst (.slice A n c)).run P w= .ok (.string ⟨l.toArray⟩) w:=by
 obtain⟨aB,uo,bS,hv,_,_,ay⟩:=h
 injection hv with aj ak bf
 subst aj ak bf
 rcases A with _ |ad
 ·have aE:l=[]:=by
   rcases Nat.eq_zero_or_pos l.length with h |h
   ·exact List.eq_nil_of_length_eq_zero h
   ·obtain⟨b,o,ha,_⟩:=ay h;cases ha
  subst aE
  exact run_convert_bytes_nil w src e hs he _ _ dst hd
 ·refine run_convert_bytes_back w src dst e ad _ l hs he hd fun j au=>?_
  obtain⟨b,o,ha,_,_,hc⟩:=ay (by omega)
  injection ha with ha
  subst ha
  rw[qV]
  exact hc j _ (by simp[List.getElem?_eq_getElem au,iM])
def AG (_:Nat→Prop) (_:World) (p:l7) (c:List Value):Prop:=c=[.int .i64 p.C,.string ⟨p.B.toArray⟩]
def sX (D:Nat→Prop) (w:World) (v:Value) (l:List l7):Prop:= ∃xs,fF D w 2 v l.length xs∧kV (AG D) w l xs
theorem sX.mono {D j6:Nat→Prop} {w w':World} {v:Value} {l:List l7} (h:sX D w v l) (aq:lB D w w') (hw:w.heap.size≤w'.heap.size) (hd: ∀i,i < w.heap.size→D i→j6 i):sX j6 w' v l:=by
 obtain⟨xs,aa,af⟩:=h
 exact⟨xs,aa.mono aq hw hd,kV.mono (R:=AG D) (R':=AG j6) (fun _ _ h=>h) l xs af⟩
theorem sX.below {D:Nat→Prop} {w w':World} {v:Value} {l:List l7} (h:sX D w v l) (ag:Below w.heap.size w w'):sX D w' v l:=h.mono (lB.qU ag) ag.size fun _ _ h=>h
theorem sX.form {D:Nat→Prop} {w:World} {v:Value} {l:List l7} (h:sX D w v l): ∃A c,v= .slice A l.length c∧l.length≤c∧c≤maxLen:=by
 obtain⟨xs,⟨_,A,c,rfl,aa,af,_⟩,_⟩:=h
 exact⟨A,c,rfl,aa,af⟩
theorem fF.elem {α:Type} {D:Nat→Prop} {w:World} {s:Nat} {A:Option Addr} {n c:Nat} {l:List α} {xs:List Value} {R:World→α→List Value→Prop} (h:fF D w s (.slice A n c) l.length xs) (hr:kV R w l xs) (hs: ∀a c,R w a c→c.length=s) {k:Nat} {x:α} (hx:l[k]? =some x):
  n=l.length∧k < n∧ ∃b o cs,A=some ⟨b,o,none⟩∧D b∧b < w.heap.size∧R w x cs∧ ∀j u,cs[j]? =some u→w.cell? ⟨b,o+(k*s+j),none⟩=some u:=by
 obtain⟨aq,rfl⟩:=List.getElem?_eq_some_iff.1 hx
 obtain⟨aB,uo,bS,he,_,_,ay⟩:=h
 injection he with aj ak bf
 subst aj ak bf
 obtain⟨b,o,rfl,cq,ag,hc⟩:=ay (by omega)
 obtain⟨cs,hR,au⟩:=kV.get hs l xs hr k aq
 refine⟨rfl,aq,b,o,cs,rfl,cq,ag,hR,fun j u KJ=>hc _ u ?_⟩
 have Rb:j < s:=by rw[←hs _ _ hR];exact(List.getElem?_eq_some_iff.1 KJ).1
 rw[au j Rb];exact KJ
theorem sX.get {D:Nat→Prop} {w:World} {A:Option Addr} {n c:Nat} {l:List l7} (h:sX D w (.slice A n c) l) {k:Nat} {p:l7} (hx:l[k]? =some p):
  ∃b o,A=some ⟨b,o,none⟩∧D b∧b < w.heap.size∧w.cell? ⟨b,o+k*2,none⟩=some (.int .i64 p.C)∧w.cell? ⟨b,o+k*2+1,none⟩=some (.string ⟨p.B.toArray⟩):=by
 obtain⟨xs,aa,af⟩:=h
 obtain⟨-,-,b,o,cs,rfl,cq,ag,hR,hc⟩:=fF.elem aa af (fun a c h=>by unfold AG at h;subst h;rfl) hx
 unfold AG at hR
 subst hR
 refine⟨b,o,rfl,cq,ag,?_,?_⟩
 ·simpa using hc 0 _ rfl
 ·simpa[Nat.add_assoc] using hc 1 _ rfl
theorem FF {w:World} (o:Obj) {g:Nat} (h:g=w.heap.size):(w.alloc o).heap[g]? =some o:=by subst h;exact heap_alloc_new w o
end Go.Proofs.YteoamepgonpdlaaGreat
namespace Go.Proofs.YteoamepgonpdlaaGreat
open Go.RowKit
inductive U where
 |int (k:IntKind)
 |u8
 |bool
 |str
 |aY
 |c9
 |fn
 |sl (u:U)
 |pr (u v:U)
 |arr (n:Nat) (u:U)
def aI:U→Type
 | .int _=>Int
 | .u8=>UInt8
 | .bool=>Bool
 | .str=>List UInt8
 | .aY=>Option Nat
 | .c9=>Option (Nat×Nat×Nat)
 | .fn=>Nat×List Nat
 | .sl u=>List (aI u)
 | .pr u v=>aI u×aI v
 | .arr _ u=>List (aI u)
def aM:U→Nat
 | .int _=>1
 | .u8=>1
 | .bool=>1
 | .str=>1
 | .aY=>1
 | .c9=>1
 | .fn=>1
 | .sl _=>1
 | .pr u v=>aM u+aM v
 | .arr n u=>n*aM u
def dflt:(u:U)→aI u
 | .int _=>(0:Int)
 | .u8=>(0:UInt8)
 | .bool=>false
 | .str=>([]:List UInt8)
 | .aY=>(none:Option Nat)
 | .c9=>(none:Option (Nat×Nat×Nat))
 | .fn=>((0,[]):Nat×List Nat)
 | .sl _=>[]
 | .pr u v=>(dflt u,dflt v)
 | .arr n u=>List.replicate n (dflt u)
inductive D where
 |int (k:IntKind) (n:Int)
 |lit (b:Bool)
 |bool (b:Bool)
 |str (s:List UInt8)
 |aY (x:Option Nat)
 |c9 (x:Option (Nat×Nat×Nat))
 |fn (x:Nat×List Nat)
 |cT (u:U) (xs:List (aI u))
def e4:(u:U)→aI u→Nat→D
 | .int k,n,_=>.int k n
 | .u8,b,_=>.int .u8 (UInt8.toNat b:Int)
 | .bool,b,_=>.bool b
 | .str,s,_=>.str s
 | .aY,x,_=>.aY x
 | .c9,x,_=>.c9 x
 | .fn,x,_=>.fn x
 | .sl u,xs,_=>.cT u xs
 | .pr u v,p,j=>match Nat.blt j (aM u) with
  |true=>e4 u p.1 j
  |false=>e4 v p.2 (j - aM u)
 | .arr _ u,xs,j=>e4 u (List.getD xs (j/aM u) (dflt u)) (j % aM u)
def eT {α:Type} (xs:List α) (i:Nat):Option α:=xs[i]?
def CL {α:Type} (x:α) (xs:List α):Prop:=x∈xs
theorem Rc {α:Type} (xs:List α) (i:Nat) (d:α) (h:i < xs.length):eT xs i=some (xs.getD i d):=by
 unfold eT
 rw[List.getD_eq_getElem?_getD,List.getElem?_eq_getElem h]
 rfl
theorem Re {α:Type} {xs:List α} {i:Nat} {y:α} (d:α) (h:eT xs i=some y):xs.getD i d=y:=by
 unfold eT at h
 rw[List.getD_eq_getElem?_getD,h]
 rfl
theorem AH {α:Type} {xs:List α} {i:Nat} {y:α} (h:eT xs i=some y):i < xs.length:=(List.getElem?_eq_some_iff.1 h).1
theorem Rf {α:Type} {xs:List α} {i:Nat} {y:α} (h:eT xs i=some y):CL y xs:=List.mem_of_getElem? h
def nO:(u:U)→aI u→Prop
 | .pr u v,p=>nO u p.1∧nO v p.2
 | .arr n u,xs=>List.length xs=n∧ ∀x,CL (α:=aI u) x xs→nO u x
 |_,_=>True
def nP:Option Nat→Option Addr
 |none=>none
 |some b=>some ⟨b,0,none⟩
def qW:Option (Nat×Nat×Nat)→Value
 |none=>.slice none 0 0
 |some (b,n,cap)=>.slice (some ⟨b,0,none⟩) n cap
def qX:List Nat→List Value
 | []=>[]
 |b::l=>.pointer (some ⟨b,0,none⟩)::qX l
def mJ (x:Nat×List Nat):Value:=.func (.func x.1) #[] (List.toArray (qX x.2))
def b7 (I:Nat→Prop) (w:World):(u:U)→aI u→(Nat→Option Value)→Prop
 | .int k,n,c=>c 0=some (.int k n)
 | .u8,b,c=>c 0=some (.int .u8 (UInt8.toNat b:Int))
 | .bool,b,c=>c 0=some (.bool b)
 | .str,s,c=>c 0=some (.string ⟨List.toArray s⟩)
 | .aY,x,c=>c 0=some (.pointer (nP x))
 | .c9,x,c=>c 0=some (qW x)
 | .fn,x,c=>c 0=some (mJ x)
 | .sl u,xs,c=> ∃A cap,c 0=some (.slice A (List.length xs) cap)∧List.length xs≤cap∧cap≤maxLen∧
  (0 < List.length xs→ ∃b o,A=some ⟨b,o,none⟩∧I b∧ ∀i x,eT (α:=aI u) xs i=some x→b7 I w u x (fun j=>w.cell? ⟨b,o+(i*aM u+j),none⟩))
 | .pr u v,p,c=>b7 I w u p.1 c∧b7 I w v p.2 (fun j=>c (aM u+j))
 | .arr n u,xs,c=>List.length xs=n∧ ∀i x,eT (α:=aI u) xs i=some x→b7 I w u x (fun j=>c (i*aM u+j))
def Den (I:Nat→Prop) (w:World):D→Value→Prop
 | .int k n,v=>v= .int k n
 | .lit b,v=>v= .bool b
 | .bool b,v=>v= .bool b
 | .str s,v=>v= .string ⟨s.toArray⟩
 | .aY x,v=>v= .pointer (nP x)
 | .c9 x,v=>v=qW x
 | .fn x,v=>v=mJ x
 | .cT u xs,v=>b7 I w (.sl u) xs (fun _=>some v)
def Ext (I:Nat→Prop) (w:World) (I':Nat→Prop) (w':World):Prop:= ∀b,I b→I' b∧w'.heap[b]? =w.heap[b]?
section
variable {I I':Nat→Prop} {w w':World}
theorem Ext.refl (I:Nat→Prop) (w:World):Ext I w I w:=fun _ h=>⟨h,rfl⟩
theorem Ext.trans {KK:Nat→Prop} {KL:World} (h:Ext I w I' w') (k:Ext I' w' KK KL):Ext I w KK KL:=fun b ag=>⟨(k b (h b ag).1).1,(k b (h b ag).1).2.trans (h b ag).2⟩
theorem KM {b o:Nat} {v:Value} (h:w'.heap[b]? =w.heap[b]?) (hc:w.cell? ⟨b,o,none⟩=some v):w'.cell? ⟨b,o,none⟩=some v:=
 (World.cell?_of_block (a:=⟨b,o,none⟩) h).trans hc
theorem b7.mono (he:Ext I w I' w'): ∀(u:U) (x:aI u) (c bS:Nat→Option Value),(∀j v,c j=some v→bS j=some v)→b7 I w u x c→b7 I' w' u x bS:=by
 intro u
 induction u with
 |int k=>exact fun x c bS hc h=>hc _ _ h
 |u8=>exact fun x c bS hc h=>hc _ _ h
 |bool=>exact fun x c bS hc h=>hc _ _ h
 |str=>exact fun x c bS hc h=>hc _ _ h
 |aY=>exact fun x c bS hc h=>hc _ _ h
 |c9=>exact fun x c bS hc h=>hc _ _ h
 |fn=>exact fun x c bS hc h=>hc _ _ h
 |sl u aZ=>
  rintro x c bS hc ⟨A,cap,aE,aa,af,ay⟩
  refine⟨A,cap,hc _ _ aE,aa,af,fun aB=>?_⟩
  obtain⟨b,o,hA,bC,hx⟩:=ay aB
  exact⟨b,o,hA,(he b bC).1,fun i y aF=>aZ _ _ _ (fun j v hv=>KM (he b bC).2 hv) (hx i y aF)⟩
 |pr u v oL oM=>exact fun x c bS hc h=>⟨oL _ _ _ hc h.1,oM _ _ _ (fun j v hv=>hc _ _ hv) h.2⟩
 |arr n u aZ=>exact fun x c bS hc h=>⟨h.1,fun i y aF=>aZ _ _ _ (fun j v hv=>hc _ _ hv) (h.2 i y aF)⟩
theorem Den.mono (he:Ext I w I' w'): ∀(x:D) (v:Value),Den I w x v→Den I' w' x v
 | .int _ _,_,h=>h
 | .lit _,_,h=>h
 | .bool _,_,h=>h
 | .str _,_,h=>h
 | .aY _,_,h=>h
 | .c9 _,_,h=>h
 | .fn _,_,h=>h
 | .cT u xs,v,h=>b7.mono he (.sl u) xs (fun _=>some v) (fun _=>some v) (fun _ _ h=>h) h
theorem FG {j n s:Nat} (h:j < n*s):j/s < n∧j % s < s∧j/s*s+j % s=j:=by
 have hs:0 < s:=by
  rcases Nat.eq_zero_or_pos s with aE |aE
  ·subst aE;simp at h
  ·exact aE
 exact⟨(Nat.div_lt_iff_lt_mul hs).2 h,Nat.mod_lt _ hs,by rw[Nat.mul_comm];exact Nat.div_add_mod j s⟩
theorem b7.cell: ∀(u:U) (x:aI u) (c:Nat→Option Value) (j:Nat),b7 I w u x c→j < aM u→ ∃v,c j=some v∧Den I w (e4 u x j) v:=by
 intro u
 induction u with
 |int k=>exact fun x c j h au=>⟨_,(by
       have:j=0:=by simp[aM] at au;exact au
       subst this;exact h),rfl⟩
 |u8=>exact fun x c j h au=>⟨_,(by
    have:j=0:=by simp[aM] at au;exact au
    subst this;exact h),rfl⟩
 |bool=>exact fun x c j h au=>⟨_,(by
      have:j=0:=by simp[aM] at au;exact au
      subst this;exact h),rfl⟩
 |str=>exact fun x c j h au=>⟨_,(by
     have:j=0:=by simp[aM] at au;exact au
     subst this;exact h),rfl⟩
 |aY=>exact fun x c j h au=>⟨_,(by
     have:j=0:=by simp[aM] at au;exact au
     subst this;exact h),rfl⟩
 |c9=>exact fun x c j h au=>⟨_,(by
     have:j=0:=by simp[aM] at au;exact au
     subst this;exact h),rfl⟩
 |fn=>exact fun x c j h au=>⟨_,(by
    have:j=0:=by simp[aM] at au;exact au
    subst this;exact h),rfl⟩
 |sl u _=>
  intro x c j h au
  have:j=0:=by simp[aM] at au;exact au
  subst this
  obtain⟨A,cap,aE,aa⟩:=h
  exact⟨_,aE,A,cap,rfl,aa⟩
 |pr u v oL oM=>
  intro x c j h au
  simp only[aM] at au
  unfold e4
  by_cases bF:j < aM u
  ·rw[show Nat.blt j (aM u)=true by simpa[Nat.blt_eq] using bF]
   exact oL _ _ _ h.1 bF
  ·rw[show Nat.blt j (aM u)=false by rw[Bool.eq_false_iff];simpa[Nat.blt_eq] using bF]
   have:=oM _ _ (j - aM u) h.2 (by omega)
   rwa[show aM u+(j - aM u)=j by omega] at this
 |arr n u aZ=>
  intro x c j h au
  obtain⟨aj,ak,bf⟩:=FG (by simpa[aM] using au)
  have aB:j/aM u < List.length x:=by rw[h.1];exact aj
  have bk:eT (α:=aI u) x (j/aM u)=some (List.getD x (j/aM u) (dflt u)):=Rc (α:=aI u) x _ _ aB
  have:=aZ _ _ (j % aM u) (h.2 _ _ bk) ak
  rw[bf] at this
  exact this
theorem b7.mk: ∀(u:U) (x:aI u) (c:Nat→Option Value),nO u x→(∀j,j < aM u→ ∃v,c j=some v∧Den I w (e4 u x j) v)→b7 I w u x c:=by
 intro u
 induction u with
 |int k=>intro x c _ h;obtain⟨v,aa,af⟩:=h 0 (by simp[aM]);rw[show v=_ from af] at aa;exact aa
 |u8=>intro x c _ h;obtain⟨v,aa,af⟩:=h 0 (by simp[aM]);rw[show v=_ from af] at aa;exact aa
 |bool=>intro x c _ h;obtain⟨v,aa,af⟩:=h 0 (by simp[aM]);rw[show v=_ from af] at aa;exact aa
 |str=>intro x c _ h;obtain⟨v,aa,af⟩:=h 0 (by simp[aM]);rw[show v=_ from af] at aa;exact aa
 |c9=>intro x c _ h;obtain⟨v,aa,af⟩:=h 0 (by simp[aM]);rw[show v=_ from af] at aa;exact aa
 |fn=>intro x c _ h;obtain⟨v,aa,af⟩:=h 0 (by simp[aM]);rw[show v=_ from af] at aa;exact aa
 |aY=>intro x c _ h;obtain⟨v,aa,af⟩:=h 0 (by simp[aM]);rw[show v=_ from af] at aa;exact aa
 |sl u _=>
  intro x c _ h
  obtain⟨v,aa,A,cap,af,ay⟩:=h 0 (by simp[aM])
  exact⟨A,cap,aa.trans af,ay⟩
 |pr u v oL oM=>
  intro x c hw h
  refine⟨oL _ _ hw.1 fun j au=>?_,oM _ _ hw.2 fun j au=>?_⟩
  ·obtain⟨v,aa,af⟩:=h j (by simp only[aM];omega)
   unfold e4 at af
   rw[show Nat.blt j (aM u)=true by simpa[Nat.blt_eq] using au] at af
   exact⟨v,aa,af⟩
  ·obtain⟨v',aa,af⟩:=h (aM u+j) (by simp only[aM];omega)
   unfold e4 at af
   rw[show Nat.blt (aM u+j) (aM u)=false by rw[Bool.eq_false_iff];simp[Nat.blt_eq]] at af
   rw[show aM u+j - aM u=j by omega] at af
   exact⟨v',aa,af⟩
 |arr n u aZ=>
  intro x c hw h
  refine⟨hw.1,fun i y aF=>aZ _ _ (hw.2 y (Rf (α:=aI u) aF)) fun j au=>?_⟩
  have aD:i < List.length x:=AH (α:=aI u) aF
  have dz:i < n:=by rw[←hw.1];exact aD
  have bF:i*aM u+j < n*aM u:=by
   have:=Nat.mul_le_mul_right (aM u) dz
   rw[Nat.succ_mul] at this
   omega
  obtain⟨v,aa,af⟩:=h (i*aM u+j) bF
  unfold e4 at af
  have aj:(i*aM u+j)/aM u=i:=by
   rw[Nat.mul_comm,Nat.mul_add_div (by omega),Nat.div_eq_of_lt au,Nat.add_zero]
  have ak:(i*aM u+j) % aM u=j:=by
   rw[Nat.mul_comm,Nat.mul_add_mod,Nat.mod_eq_of_lt au]
  rw[aj,ak] at af
  rw[show List.getD x i (dflt u)=y from Re (α:=aI u) _ aF] at af
  exact⟨v,aa,af⟩
end
structure bq where
 bI:Nat
 A:Option Addr
 n:Nat
 cap:Nat
def bq.hdr (p:bq):Value:=.slice p.A p.n p.cap
inductive kH where
 |p (c off:Nat)
 |d (x:D)
inductive bD where
 |d (x:D)
 |ptr (c off:Nat)
 |own (c:Nat)
 |el (u:U) (x:aI u) (off:Nat)
 |fk (c s i off:Nat)
 |os (c s off n:Nat)
 |mp (c:Nat)
 |eM (f:FuncId) (l:List kH)
 |ec
 |raw (v:Value)
 |any
inductive dL where
 |one (s:bD)
 |agg (l:List bD)
 |jM (u:U) (x:aI u)
inductive aO where
 |c (x:dL)
 |c6 (l:List dL)
 |undef
structure bN where
 R:(Nat→Prop)→(Nat→Prop)→World→bq→Prop
 cy: ∀(I F:Nat→Prop) (w:World) (I':Nat→Prop) (w':World) (p:bq),R I F w p→Ext I w I' w'→(∀b,F b→w'.heap[b]? =w.heap[b]?)→w.heap.size≤w'.heap.size→R I' F w' p
inductive bw where
 |cells (l:List bD)
 |row (e:TypeId) (u:U) (xs:List (aI u))
 |map (aN aP:U) (es:List (aI aN×aI aP))
 |val (u:U) (x:aI u)
 |obj (o:bN)
 |dep (d:Nat) (o:bq→bN)
def wY (ρ:Nat→bq) (I:Nat→Prop) (w:World):kH→Value→Prop
 | .p c off,v=>v= .pointer (some ⟨(ρ c).bI,off,none⟩)
 | .d x,v=>Den I w x v
def gZ (ρ:Nat→bq) (I:Nat→Prop) (w:World):List kH→List Value→Prop
 | [],vs=>vs=[]
 |s::l,vs=> ∃v r,vs=v::r∧wY ρ I w s v∧gZ ρ I w l r
def dN (ρ:Nat→bq) (I:Nat→Prop) (w:World):bD→Value→Prop
 | .d x,v=>Den I w x v
 | .ptr c off,v=>v= .pointer (some ⟨(ρ c).bI,off,none⟩)
 | .own c,v=>v=(ρ c).hdr
 | .el u x off,v=> ∃b o,v= .pointer (some ⟨b,o+off,none⟩)∧I b∧b7 I w u x (fun j=>w.cell? ⟨b,o+j,none⟩)
 | .fk c s i off,v=>v= .pointer (some ⟨(ρ c).bI,i*s+off,none⟩)
 | .os c s off n,v=>v= .slice (if(ρ c).cap=off then(ρ c).A else(ρ c).A.map (·.add (off*s))) n ((ρ c).cap - off)
 | .mp c,v=>v= .map (some (ρ c).bI)
 | .eM f l,v=> ∃vs,v= .func (.func f) #[] (List.toArray vs)∧gZ ρ I w l vs
 | .ec,v=>v= .slice none 0 0
 | .raw u,v=>v=u
 | .any,_=>True
def bV (ρ:Nat→bq) (I:Nat→Prop) (w:World):List bD→List Value→Prop
 | [],vs=>vs=[]
 |s::l,vs=> ∃v r,vs=v::r∧dN ρ I w s v∧bV ρ I w l r
def fZ (ρ:Nat→bq) (I:Nat→Prop) (w:World):dL→Value→Prop
 | .one s,v=>dN ρ I w s v
 | .agg l,v=> ∃vs,v= .agg (List.toArray vs)∧bV ρ I w l vs
 | .jM u x,v=> ∃vs,v= .agg (List.toArray vs)∧vs.length=aM u∧b7 I w u x (fun j=>vs[j]?)
def iN (ρ:Nat→bq) (I:Nat→Prop) (w:World):List dL→List Value→Prop
 | [],vs=>vs=[]
 |s::l,vs=> ∃v r,vs=v::r∧fZ ρ I w s v∧iN ρ I w l r
def b8 (ρ:Nat→bq) (I:Nat→Prop) (w:World):aO→Value→Prop
 | .c x,v=>fZ ρ I w x v
 | .c6 l,v=> ∃vs,v= .tuple (List.toArray vs)∧iN ρ I w l vs
 | .undef,v=>v=Go.undef
def ir:(u:U)→aI u→Value
 | .int k,n=>.int k n
 | .str,s=>.string ⟨List.toArray s⟩
 |_,_=>.nilFunc
def ni:U→Bool
 | .pr _ _=>false
 | .arr _ _=>false
 |_=>true
def kI (I:Nat→Prop) (w:World) (u:U) (x:aI u) (v:Value):Prop:=v.cells.size=aM u∧((ni u=true→v.cells= #[v])∧(ni u=false→ ∃cs,v= .agg cs))∧b7 I w u x (fun j=>v.cells.toList[j]?)
def jN (I:Nat→Prop) (w:World) (aN aP:U):List (aI aN×aI aP)→List MapEntry→Prop
 | [],es=>es=[]
 |p::l,es=> ∃e r,es=e::r∧e.key=ir aN p.1∧kI I w aP p.2 e.val∧jN I w aN aP l r
def oN (es:List MapEntry) (clock:Nat):Prop:=(es.map (·.born)).Pairwise (· < ·)∧ ∀e,e∈es→e.born < clock
def gF (I:Nat→Prop) (w:World) (u:U) (xs:List (aI u)) (cs:List Value):Prop:= ∀i x,xs[i]? =some x→b7 I w u x (fun j=>cs[i*aM u+j]?)
def Holds (ρ:Nat→bq) (I F:Nat→Prop) (w:World) (p:bq):bw→Prop
 | .cells l=>(∀b,F b↔b=p.bI)∧ ∃vs T,w.heap[p.bI]? =some (.cells (List.toArray vs) T (0,0))∧bV ρ I w l vs
 | .row e u xs=>(∀b,F b↔p.hdr.ownBlock=some b)∧(∀b,p.hdr.ownBlock=some b→b=p.bI)∧ ∃cs,w.ownsRow 0 e (aM u) p.hdr xs.length cs∧gF I w u xs cs
 | .map aN aP es=>(∀b,F b↔b=p.bI)∧ ∃cX clock,w.heap[p.bI]? =some (.map (List.toArray cX) clock)∧jN I w aN aP es cX∧oN cX clock
 | .val u x=>(∀b,F b↔b=p.bI)∧ ∃vs T,w.heap[p.bI]? =some (.cells (List.toArray vs) T (0,0))∧vs.length=aM u∧b7 I w u x (fun j=>vs[j]?)
 | .obj o=>o.R I F w p
 | .dep d o=>(o (ρ d)).R I F w p
def l8 (c:Nat):List kH→Bool
 | []=>false
 | .p b _::l=>Nat.beq b c||l8 c l
 | .d _::l=>l8 c l
def bD.has (c:Nat):bD→Bool
 | .ptr b _=>Nat.beq b c
 | .own b=>Nat.beq b c
 | .fk b _ _ _=>Nat.beq b c
 | .os b _ _ _=>Nat.beq b c
 | .mp b=>Nat.beq b c
 | .eM _ l=>l8 c l
 |_=>false
def nj (c:Nat):List bD→Bool
 | []=>false
 |s::l=>s.has c||nj c l
def dL.has (c:Nat):dL→Bool
 | .one s=>s.has c
 | .agg l=>nj c l
 | .jM _ _=>false
def sY (c:Nat):List dL→Bool
 | []=>false
 |s::l=>s.has c||sY c l
def aO.has (c:Nat):aO→Bool
 | .c x=>x.has c
 | .c6 l=>sY c l
 | .undef=>false
def bw.has (c:Nat):bw→Bool
 | .cells l=>nj c l
 | .dep d _=>Nat.beq d c
 |_=>false
section
variable {ρ ρ':Nat→bq} {I I':Nat→Prop} {w w':World}
theorem gZ.mono (he:Ext I w I' w'): ∀(l:List kH) (vs:List Value),(∀c,l8 c l=true→ρ' c=ρ c)→gZ ρ I w l vs→gZ ρ' I' w' l vs
 | [],_,_,h=>h
 | .p b o::l,_,dn,⟨v,r,e,aa,af⟩=>⟨v,r,e,(by have e:=dn b (by simp[l8]);simp only[wY] at*;rw[e];exact aa),gZ.mono he l r (fun c hc=>dn c (by simp[l8,hc])) af⟩
 | .d x::l,_,dn,⟨v,r,e,aa,af⟩=>⟨v,r,e,Den.mono he x v aa,gZ.mono he l r (fun c hc=>dn c (by simpa[l8] using hc)) af⟩
theorem dN.mono (he:Ext I w I' w') (s:bD) (v:Value) (dn: ∀c,s.has c=true→ρ' c=ρ c) (h:dN ρ I w s v):dN ρ' I' w' s v:=by
 cases s with
 |d x=>exact Den.mono he x v h
 |ptr c off=>
  have e:=dn c (by simp[bD.has,Nat.beq_eq])
  simp only[dN] at*
  rw[e]
  exact h
 |own c=>
  have e:=dn c (by simp[bD.has,Nat.beq_eq])
  simp only[dN] at*
  rw[e]
  exact h
 |el u x off=>
  obtain⟨b,o,aa,af,ay⟩:=h
  exact⟨b,o,aa,(he b af).1,b7.mono he u x _ _ (fun j v hv=>KM (he b af).2 hv) ay⟩
 |fk c s i off=>
  have e:=dn c (by simp[bD.has,Nat.beq_eq])
  simp only[dN] at*
  rw[e]
  exact h
 |os c s off n=>
  have e:=dn c (by simp[bD.has,Nat.beq_eq])
  simp only[dN] at*
  rw[e]
  exact h
 |mp c=>
  have e:=dn c (by simp[bD.has,Nat.beq_eq])
  simp only[dN] at*
  rw[e]
  exact h
 |eM f l=>obtain⟨vs,e,h⟩:=h;exact⟨vs,e,gZ.mono he l vs dn h⟩
 |ec=>exact h
 |raw u=>exact h
 |any=>trivial
theorem bV.mono (he:Ext I w I' w'): ∀(l:List bD) (vs:List Value),(∀c,nj c l=true→ρ' c=ρ c)→bV ρ I w l vs→bV ρ' I' w' l vs
 | [],_,_,h=>h
 |s::l,_,dn,⟨v,r,e,aa,af⟩=>⟨v,r,e,dN.mono he s v (fun c hc=>dn c (by simp[nj,hc])) aa,bV.mono he l r (fun c hc=>dn c (by simp[nj,hc])) af⟩
theorem fZ.mono (he:Ext I w I' w') (s:dL) (v:Value) (dn: ∀c,s.has c=true→ρ' c=ρ c) (h:fZ ρ I w s v):fZ ρ' I' w' s v:=by
 cases s with
 |one s=>exact dN.mono he s v dn h
 |agg l=>obtain⟨vs,e,h⟩:=h;exact⟨vs,e,bV.mono he l vs dn h⟩
 |jM u x=>obtain⟨vs,e,aa,af⟩:=h;exact⟨vs,e,aa,b7.mono he u x _ _ (fun _ _ h=>h) af⟩
theorem iN.mono (he:Ext I w I' w'): ∀(l:List dL) (vs:List Value),(∀c,sY c l=true→ρ' c=ρ c)→iN ρ I w l vs→iN ρ' I' w' l vs
 | [],_,_,h=>h
 |s::l,_,dn,⟨v,r,e,aa,af⟩=>⟨v,r,e,fZ.mono he s v (fun c hc=>dn c (by simp[sY,hc])) aa,iN.mono he l r (fun c hc=>dn c (by simp[sY,hc])) af⟩
theorem b8.mono (he:Ext I w I' w') (s:aO) (v:Value) (dn: ∀c,s.has c=true→ρ' c=ρ c) (h:b8 ρ I w s v):b8 ρ' I' w' s v:=by
 cases s with
 |c s=>exact fZ.mono he s v dn h
 |c6 l=>obtain⟨vs,e,h⟩:=h;exact⟨vs,e,iN.mono he l vs dn h⟩
 |undef=>exact h
theorem gF.mono (he:Ext I w I' w') {u:U} {xs:List (aI u)} {cs:List Value} (h:gF I w u xs cs):gF I' w' u xs cs:=fun i x hx=>b7.mono he u x _ _ (fun _ _ h=>h) (h i x hx)
theorem kI.mono (he:Ext I w I' w') {u:U} {x:aI u} {v:Value} (h:kI I w u x v):kI I' w' u x v:=⟨h.1,h.2.1,b7.mono he u x _ _ (fun _ _ h=>h) h.2.2⟩
theorem jN.mono (he:Ext I w I' w') {aN aP:U}: ∀{l:List (aI aN×aI aP)} {es:List MapEntry},jN I w aN aP l es→jN I' w' aN aP l es
 | [],_,h=>h
 |_::_,_,⟨e,r,aE,aa,af,ay⟩=>⟨e,r,aE,aa,af.mono he,ay.mono he⟩
theorem Rg {e s n:Nat} {v:Value} {cs:List Value} (h:w.ownsRow 0 e s v n cs) (ag: ∀b,v.ownBlock=some b→w'.heap[b]? =w.heap[b]?):w'.ownsRow 0 e s v n cs:=by
 refine⟨h.1,?_⟩
 rcases h.2 with h |⟨g,cap,cur,hv,aE,bk,r⟩
 ·exact .inl h
 ·exact .inr ⟨g,cap,cur,hv,aE,(ag g (by rw[hv];rfl)).trans bk,r⟩
theorem Holds.cy (he:Ext I w I' w') {F:Nat→Prop} (hF: ∀b,F b→w'.heap[b]? =w.heap[b]?) (aS:w.heap.size≤w'.heap.size) {p:bq}: ∀(ch:bw),(∀c,ch.has c=true→ρ' c=ρ c)→Holds ρ I F w p ch→Holds ρ' I' F w' p ch
 | .cells l,dn,⟨aa,vs,T,af,ay⟩=>⟨aa,vs,T,(hF _ ((aa _).2 rfl)).trans af,bV.mono he l vs dn ay⟩
 | .row e u xs,_,⟨aa,af,cs,ay,bu⟩=>⟨aa,af,cs,Rg ay fun b ag=>hF b ((aa b).2 ag),bu.mono he⟩
 | .map aN aP es,_,⟨aa,cX,clock,af,ay,bu⟩=>⟨aa,cX,clock,(hF _ ((aa _).2 rfl)).trans af,ay.mono he,bu⟩
 | .val u x,_,⟨aa,vs,T,af,ay,bu⟩=>⟨aa,vs,T,(hF _ ((aa _).2 rfl)).trans af,ay,b7.mono he u x _ _ (fun _ _ h=>h) bu⟩
 | .obj o,_,h=>o.cy _ _ _ _ _ _ h he hF aS
 | .dep d o,dn,h=>by
  have e:=dn d (by simp[bw.has])
  simp only[Holds] at*
  rw[e]
  exact(o (ρ d)).cy _ _ _ _ _ _ h he hF aS
end
end Go.Proofs.YteoamepgonpdlaaGreat
namespace Go.Proofs.YteoamepgonpdlaaGreat
open Go.RowKit
abbrev aQ:=List (Nat×aO)
abbrev aG:=List (Nat×bw)
def look:aQ→Nat→aO
 | [],_=>.c (.one .any)
 |(t,v)::K,s=>match Nat.beq t s with
  |true=>v
  |false=>look K s
def ax:aG→Nat→Option bw
 | [],_=>none
 |(t,v)::B,s=>match Nat.beq t s with
  |true=>some v
  |false=>ax B s
def ia:aG→Nat→aG
 | [],_=>[]
 |(t,v)::B,s=>match Nat.beq t s with
  |true=>ia B s
  |false=>(t,v)::ia B s
theorem j7 (B:aG) (c d:Nat):ax (ia B c) d=if c=d then none else ax B d:=by
 induction B with
 |nil=>simp[ia,ax]
 |cons x B aZ=>
  obtain⟨t,v⟩:=x
  unfold ia
  by_cases h:Nat.beq t c=true
  ·have e:=Nat.eq_of_beq_eq_true h
   subst e
   rw[h]
   simp only[aZ]
   split
   ·rfl
   ·rename_i bg
    simp only[ax]
    rw[show Nat.beq t d=false by rw[Bool.eq_false_iff];intro h;exact bg (Nat.eq_of_beq_eq_true h)]
  ·rw[Bool.not_eq_true] at h
   rw[h]
   simp only[ax]
   by_cases af:Nat.beq t d=true
   ·have e:=Nat.eq_of_beq_eq_true af
    subst e
    rw[if_neg (fun e=>by subst e;simp at h)]
    rw[af]
   ·rw[Bool.not_eq_true] at af
    rw[af]
    simpa using aZ
theorem cD (B:aG) (c:Nat) (ch:bw) (d:Nat):ax ((c,ch)::B) d=if c=d then some ch else ax B d:=by
 simp only[ax]
 by_cases h:c=d
 ·subst h;simp
 ·rw[if_neg h,show Nat.beq c d=false by rw[Bool.eq_false_iff];intro e;exact h (Nat.eq_of_beq_eq_true e)]
theorem kJ (K:aQ) (c:Nat) (v:aO) (d:Nat):look ((c,v)::K) d=if c=d then v else look K d:=by
 rw[look.eq_def]
 by_cases h:c=d
 ·subst h;simp
 ·simp only[if_neg h,show Nat.beq c d=false by rw[Bool.eq_false_iff];intro e;exact h (Nat.eq_of_beq_eq_true e)]
def At (a:Act) (s:Nat) (v:Value):Prop:=a.tmps.getD s undef=v
theorem At.eval {a:Act} {s:Nat} {v:Value} (h:At a s v):a.eval (.tmp s)=v:=h
theorem KN {a:Act} {d:Nat} {v:Value} (h:d < a.tmps.size):At (a.put (some d) v) d v:=by simp[At,Act.put,h]
theorem Rh {a:Act} {d s:Nat} {v:Value} (h:d≠s):a.tmps.getD s undef=(a.put (some d) v).tmps.getD s undef:=by
 simp[Act.put,Array.getElem?_setIfInBounds_ne h]
theorem lC {a:Act} {d:Option Nat} {v:Value}:(a.put d v).tmps.size=a.tmps.size:=by cases d <;>simp[Act.put]
theorem put_defers {a:Act} {d:Option Nat} {v:Value}:(a.put d v).defers=a.defers:=by cases d <;>simp[Act.put]
structure Ctx where
 w0:World
 yJ:Nat→Prop
 qj:Nat→Prop
 mK:Nat→bq
 ds:List Nat
def wZ (D:Nat):Deferred:={target:=.collected D,args:= #[]}
def bO (C:Ctx) (B:aG) (F:Nat→Nat→Prop) (w:World):Nat→Prop:=fun b=>
 b < w.heap.size∧(C.yJ b∨C.qj b∨C.w0.heap.size≤b∧b∉C.ds)∧ ∀c ch,ax B c=some ch→ ¬F c b
structure Mem (ids:List Nat) (C:Ctx) (B:aG) (ρ:Nat→bq) (F:Nat→Nat→Prop) (w:World):Prop where
 jo:Fr C.qj C.w0 w
 holds: ∀c ch,ax B c=some ch→Holds ρ (bO C B F w) (F c) w (ρ c) ch
 own: ∀c ch,ax B c=some ch→ ∀b,F c b→b < w.heap.size∧(C.qj b∨C.w0.heap.size≤b∧b∉C.ds)
 e8: ∀c bS ch ch' b,ax B c=some ch→ax B bS=some ch'→c≠bS→F c b→ ¬F bS b
 keep: ∀c,c∈ids→ρ c=C.mK c
 marks:C.ds.Nodup∧(∀b,C.yJ b∨C.qj b→b < C.w0.heap.size)∧ ∀D,D∈C.ds→D < w.heap.size∧w.heap[D]? =some (.deferred (some []))∧C.w0.heap.size≤D
def ek (K:aQ) (ρ:Nat→bq) (I:Nat→Prop) (a:Act) (w:World):Prop:= ∀s,b8 ρ I w (look K s) (a.tmps.getD s undef)
def Sat (N:Nat) (ids:List Nat) (C:Ctx) (K:aQ) (B:aG) (a:Act) (w:World):Prop:=
 a.tmps.size=N∧a.defers=C.ds.map wZ∧ ∃ρ F,Mem ids C B ρ F w∧ek K ρ (bO C B F w) a w
theorem Mem.fresh {ids:List Nat} {C:Ctx} {B:aG} {ρ:Nat→bq} {F:Nat→Nat→Prop} {w:World} (h:Mem ids C B ρ F w) {b:Nat} (ag:w.heap.size≤b):C.w0.heap.size≤b∧b∉C.ds:=
 ⟨Nat.le_trans h.jo.size ag,fun hd=>by have:=(h.marks.2.2 b hd).1;omega⟩
theorem Mem.step {ids:List Nat} {C:Ctx} {B B':aG} {ρ ρ':Nat→bq} {F F':Nat→Nat→Prop} {w w':World} (h:Mem ids C B ρ F w) (M CM:Nat→Prop)
  (cr:Fr (fun b=> ∃c ch,ax B c=some ch∧M c∧F c b) w w')
  (qY: ∀c ch,ax B' c=some ch→ ¬M c→ax B c=some ch)
  (dn: ∀c,¬CM c→ρ' c=ρ c) (hF: ∀c,¬M c→F' c=F c) (FH: ∀c,c∈ids→ ¬CM c)
  (ql: ∀c,CM c→M c)
  (named: ∀c ch,ax B c=some ch→ ¬M c→ ∀d,ch.has d=true→ ¬CM d)
  (new: ∀c ch,ax B' c=some ch→M c→Ext (bO C B F w) w (bO C B' F' w') w'→Holds ρ' (bO C B' F' w') (F' c) w' (ρ' c) ch)
  (CN: ∀c ch,ax B' c=some ch→M c→ ∀b,F' c b→b < w'.heap.size∧((∃cx cm,ax B cx=some cm∧M cx∧F cx b)∨w.heap.size≤b))
  (Ri: ∀c bS ch ch' b,ax B' c=some ch→ax B' bS=some ch'→M c→M bS→c≠bS→F' c b→ ¬F' bS b):
  Mem ids C B' ρ' F' w'∧Ext (bO C B F w) w (bO C B' F' w') w':=by
 have aS:=h.jo.size
 have FI:Ext (bO C B F w) w (bO C B' F' w') w':=by
  rintro b ⟨aa,af,ay⟩
  refine⟨⟨Nat.lt_of_lt_of_le aa cr.size,af,fun c ch hc=>?_⟩,cr.block b aa ?_⟩
  ·by_cases aA:M c
   ·intro ag
    obtain⟨_,dw⟩:=CN c ch hc aA b ag
    rcases dw with⟨cx,cm,aj,_,ak⟩ |dw
    ·exact ay cx cm aj ak
    ·omega
   ·rw[hF c aA]
    exact ay c ch (qY c ch hc aA)
  ·rintro⟨c,ch,aj,_,ak⟩
   exact ay c ch aj ak
 have Rj: ∀c ch,ax B c=some ch→ ¬M c→ ∀b,F c b→w'.heap[b]? =w.heap[b]? :=fun c ch hc aA b ag=>
  cr.block b (h.own c ch hc b ag).1 (by
   rintro⟨cx,cm,aj,ak,bf⟩
   exact h.e8 c cx ch cm b hc aj (fun e=>aA (e▸ak)) ag bf)
 refine⟨⟨?_,?_,?_,?_,?_,?_⟩,FI⟩
 ·refine h.jo.trans cr ?_
  rintro b ag ⟨c,ch,aj,_,ak⟩
  rcases(h.own c ch aj b ak).2 with h' |h'
  ·exact h'
  ·have:=h'.1;omega
 ·intro c ch hc
  by_cases aA:M c
  ·exact new c ch hc aA FI
  ·have az:=qY c ch hc aA
   rw[hF c aA,dn c (fun hn=>aA (ql c hn))]
   exact Holds.cy FI (Rj c ch az aA) cr.size ch (fun d hd=>dn d (named c ch az aA d hd)) (h.holds c ch az)
 ·intro c ch hc b ag
  by_cases aA:M c
  ·obtain⟨aa,af⟩:=CN c ch hc aA b ag
   refine⟨aa,?_⟩
   rcases af with⟨cx,cm,aj,_,ak⟩ |af
   ·exact(h.own cx cm aj b ak).2
   ·exact .inr (h.fresh af)
  ·rw[hF c aA] at ag
   obtain⟨aa,af⟩:=h.own c ch (qY c ch hc aA) b ag
   exact⟨Nat.lt_of_lt_of_le aa cr.size,af⟩
 ·intro c bS ch ch' b hc dm bg ag dw
  by_cases aA:M c
  ·by_cases bR:M bS
   ·exact Ri c bS ch ch' b hc dm aA bR bg ag dw
   ·rw[hF bS bR] at dw
    have qZ:=qY bS ch' dm bR
    rcases(CN c ch hc aA b ag).2 with⟨cx,cm,aj,bf,ak⟩ |af
    ·exact h.e8 cx bS cm ch' b aj qZ (fun e=>bR (e▸bf)) ak dw
    ·have:=(h.own bS ch' qZ b dw).1;omega
  ·rw[hF c aA] at ag
   have az:=qY c ch hc aA
   by_cases bR:M bS
   ·rcases(CN bS ch' dm bR b dw).2 with⟨cx,cm,aj,bf,ak⟩ |af
    ·exact h.e8 cx c cm ch b aj az (fun e=>aA (e▸bf)) ak ag
    ·have:=(h.own c ch az b ag).1;omega
   ·rw[hF bS bR] at dw
    exact h.e8 c bS ch ch' b az (qY bS ch' dm bR) bg ag dw
 ·intro c hc
  rw[dn c (FH c hc)]
  exact h.keep c hc
 ·refine⟨h.marks.1,h.marks.2.1,fun D cq=>?_⟩
  obtain⟨g1,g2,bL⟩:=h.marks.2.2 D cq
  refine⟨Nat.lt_of_lt_of_le g1 cr.size,(cr.block D g1 ?_).trans g2,bL⟩
  rintro⟨c,ch,aj,_,ak⟩
  rcases(h.own c ch aj D ak).2 with h' |h'
  ·have:=h.marks.2.1 D (.inr h');omega
  ·exact h'.2 cq
theorem Mem.below {ids:List Nat} {C:Ctx} {B:aG} {ρ:Nat→bq} {F:Nat→Nat→Prop} {w w':World} (h:Mem ids C B ρ F w) (ag:Below w.heap.size w w'):
  Mem ids C B ρ F w'∧Ext (bO C B F w) w (bO C B F w') w':=
 h.step (fun _=>False) (fun _=>False) (Fr.qU ag) (fun _ _ h _=>h) (fun _ _=>rfl) (fun _ _=>rfl) (fun _ _ h=>h) (fun _ h=>h) (fun _ _ _ _ _ _ h=>h) (fun _ _ _ h=>h.elim) (fun _ _ _ h=>h.elim) (fun _ _ _ _ _ _ _ h=>h.elim)
theorem ek.mono {K:aQ} {ρ ρ':Nat→bq} {I I':Nat→Prop} {a:Act} {w w':World} (h:ek K ρ I a w) (he:Ext I w I' w') (dn: ∀s c,(look K s).has c=true→ρ' c=ρ c):ek K ρ' I' a w':=
 fun s=>b8.mono he _ _ (dn s) (h s)
theorem ek.put {K:aQ} {ρ:Nat→bq} {I:Nat→Prop} {a:Act} {w:World} (h:ek K ρ I a w) {d:Nat} {v:aO} {x:Value} (hd:d < a.tmps.size) (hv:b8 ρ I w v x):ek ((d,v)::K) ρ I (a.put (some d) x) w:=fun s=>by
 rw[kJ]
 by_cases e:d=s
 ·subst e
  rw[if_pos rfl,show(a.put (some d) x).tmps.getD d undef=x from KN hd]
  exact hv
 ·rw[if_neg e,←Rh e]
  exact h s
def mL (d:Option Nat) (v:aO) (K:aQ):aQ:=match d with
 |some d=>(d,v)::K
 |none=>K
theorem ek.lD {K:aQ} {ρ:Nat→bq} {I:Nat→Prop} {a:Act} {w:World} (h:ek K ρ I a w) {d:Option Nat} {v:aO} {x:Value} (hd: ∀e,d=some e→e < a.tmps.size) (hv:b8 ρ I w v x):ek (mL d v K) ρ I (a.put d x) w:=by
 cases d with
 |none=>exact h
 |some d=>exact h.put (hd d rfl) hv
def vK:Value→bD
 | .int k n=>.d (.int k n)
 | .bool b=>.d (.lit b)
 | .string s=>.d (.str s.data.toList)
 | .slice none 0 0=>.ec
 |v=>.raw v
theorem KO (ρ:Nat→bq) (I:Nat→Prop) (w:World) (v:Value):dN ρ I w (vK v) v:=by
 unfold vK
 split <;>simp[dN,Den]
def CO:Value→aO
 | .agg cs=>.c (.agg (cs.toList.map vK))
 |v=>.c (.one (vK v))
theorem KP (ρ:Nat→bq) (I:Nat→Prop) (w:World): ∀vs:List Value,bV ρ I w (vs.map vK) vs
 | []=>rfl
 |v::vs=>⟨v,vs,rfl,KO ρ I w v,KP ρ I w vs⟩
theorem Rk (ρ:Nat→bq) (I:Nat→Prop) (w:World) (v:Value):b8 ρ I w (CO v) v:=by
 unfold CO
 split
 ·rename_i cs
  exact⟨cs.toList,by simp,KP ρ I w _⟩
 ·exact KO ρ I w v
def aU (K:aQ):Operand→aO
 | .tmp t=>look K t
 | .const v=>CO v
 | .func f=>.c (.one (.eM f []))
 | .global g=>.c (.one (.raw (.pointer (some ⟨g,0,none⟩))))
theorem ek.get {K:aQ} {ρ:Nat→bq} {I:Nat→Prop} {a:Act} {w:World} (h:ek K ρ I a w) (x:Operand):b8 ρ I w (aU K x) (a.eval x):=by
 cases x with
 |tmp t=>exact h t
 |const v=>exact Rk ρ I w v
 |func f=>exact⟨[],rfl,rfl⟩
 |global g=>rfl
end Go.Proofs.YteoamepgonpdlaaGreat
namespace Go.Proofs.YteoamepgonpdlaaGreat
open Go.RowKit
def CP (a b:Int):Bool:=decide (a=b)
def CQ (a b:List UInt8):Bool:=decide (a=b)
def iu:(u:U)→aI u→aI u→Bool
 | .int _,a,b=>CP a b
 | .str,a,b=>CQ a b
 |_,_,_=>false
def ct {aN aP:U}:List (aI aN×aI aP)→aI aN→Option (aI aP)
 | [],_=>none
 |p::l,k=>match iu aN k p.1 with
  |true=>some p.2
  |false=>ct l k
def fc {aN aP:U}:List (aI aN×aI aP)→aI aN→aI aP→List (aI aN×aI aP)
 | [],k,x=>[(k,x)]
 |p::l,k,x=>match iu aN k p.1 with
  |true=>(k,x)::l
  |false=>p::fc l k x
def iF {aN aP:U}:List (aI aN×aI aP)→aI aN→List (aI aN×aI aP)
 | [],_=>[]
 |p::l,k=>match iu aN k p.1 with
  |true=>l
  |false=>p::iF l k
def nQ:U→TypeDesc→Bool
 | .int k,.int k'=>k == k'
 | .str,.string=>true
 |_,_=>false
section
variable {P:Program} {I:Nat→Prop} {w:World} {aN aP:U}
theorem yK {d:TypeDesc} (hd:nQ aN d=true) (a:aI aN):MapKept.IsKey d (ir aN a):=by
 cases aN <;>cases d <;>simp[nQ] at hd
 ·subst hd;simp[ir,MapKept.IsKey]
 ·simp[ir,MapKept.IsKey]
theorem FJ {d:TypeDesc} (hd:nQ aN d=true) (a b:aI aN):ir aN a=ir aN b↔iu aN a b=true:=by
 cases aN <;>cases d <;>simp[nQ] at hd
 ·have: ∀(k:IntKind) (a b:Int),Value.int k a=Value.int k b↔CP a b=true:=fun k a b=>by simp[CP]
  exact this _ a b
 ·have: ∀(a b:List UInt8),Value.string ⟨List.toArray a⟩=Value.string ⟨List.toArray b⟩↔CQ a b=true:=fun a b=>by simp[CQ]
  exact this a b
theorem CR: ∀{l:List (aI aN×aI aP)} {es:List MapEntry},jN I w aN aP l es→es.length=l.length
 | [],_,h=>by rw[show _=[] from h];rfl
 |p::l,_,⟨e,r,h,_,_,ay⟩=>by rw[h,List.length_cons,List.length_cons,CR ay]
theorem AI {d:TypeDesc} (hd:nQ aN d=true) (k:aI aN): ∀(l:List (aI aN×aI aP)) (es:List MapEntry) (i:Nat),jN I w aN aP l es→
  (Instr.findNow d (ir aN k) es i=some none∧ct l k=none∧(∀x,fc l k x=l++[(k,x)])∧iF l k=l)∨
  ∃(j:Nat) (x:aI aP) (e:MapEntry),Instr.findNow d (ir aN k) es i=some (some (i+j,e.val))∧ct l k=some x∧es[j]? =some e∧e.key=ir aN k∧kI I w aP x e.val∧(∀y,fc l k y=l.set j (k,y))∧iF l k=l.eraseIdx j
 | [],_,i,h=>by
  rw[show _=[] from h]
  exact .inl ⟨rfl,rfl,fun _=>rfl,rfl⟩
 |p::l,_,i,⟨e,r,h,aa,af,ay⟩=>by
  subst h
  obtain⟨b,ag,q2⟩:=MapKept.sameNow_of_keys (yK hd k) (yK hd p.1)
  rw[←aa] at ag
  cases aq:iu aN k p.1 with
  |true=>
   have w5:b=true:=q2.2 ((FJ hd k p.1).2 aq)
   subst w5
   refine .inr ⟨0,p.2,e,by simp[Instr.findNow,ag],by simp[ct,aq],rfl,by rw[aa];exact((FJ hd k p.1).2 aq).symm,af,fun y=>by simp[fc,aq],by simp[iF,aq]⟩
  |false=>
   have Rl:b=false:=by
    cases b with
    |false=>rfl
    |true=>have:=(FJ hd k p.1).1 (q2.1 rfl);rw[aq] at this;cases this
   subst Rl
   rcases AI hd k l r (i+1) ay with⟨cj,cu,a3,a4⟩ |⟨j,x,e',cj,cu,a3,a4,a5,g5,FK⟩
   ·exact .inl ⟨by simp[Instr.findNow,ag,cj],by simp[ct,aq,cu],fun y=>by simp[fc,aq,a3],by simp[iF,aq,a4]⟩
   ·exact .inr ⟨j+1,x,e',by simp[Instr.findNow,ag,cj];omega,by simp[ct,aq,cu],by simpa using a3,a4,a5,fun y=>by simp[fc,aq,g5],by simp[iF,aq,FK]⟩
theorem KQ {t kt et:TypeId} {d:TypeDesc} (cc:P.underlying t=some (.map kt et)) (aq:P.underlying kt=some d) (hd:nQ aN d=true) {b:Nat} {cX:List MapEntry} {clock:Nat} (ag:w.heap[b]? =some (.map (List.toArray cX) clock))
  {l:List (aI aN×aI aP)} (hm:jN I w aN aP l cX) {z:Value} (aS:(zeroValue et).run P w= .ok z w) (yL:kI I w aP (dflt aP) z) (k:aI aN) (c:Bool):
  ∃v,(Instr.lookup t (.map (some b)) (ir aN k) c).run P w= .ok (if c then .tuple #[v,.bool (ct l k).isSome] else v) w∧kI I w aP ((ct l k).getD (dflt aP)) v:=by
 have hc:=fun e=>MapKept.run_checkKey (P:=P) (w:=w) aq (yK hd k) e 9999
 rcases AI (I:=I) (w:=w) hd k l cX 0 hm with⟨cj,cu,_⟩ |⟨j,x,e,cj,cu,_,_,a5,_⟩
 ·refine⟨z,?_,by rw[cu];exact yL⟩
  have hf:=MapKept.run_findKey (P:=P) (w:=w) aq cj
  rw[cu]
  simp[Instr.lookup,run_underlying cc,MapKept.run_getObj_map ag,hc,hf,aS,Result.andThen]
 ·refine⟨e.val,?_,by rw[cu];exact a5⟩
  have hf:=MapKept.run_findKey (P:=P) (w:=w) aq cj
  rw[cu]
  simp[Instr.lookup,run_underlying cc,MapKept.run_getObj_map ag,hc,hf,Result.andThen]
theorem KR: ∀{l:List (aI aN×aI aP)} {es:List MapEntry},jN I w aN aP l es→ ∀{k:aI aN} {x:aI aP} {e:MapEntry},e.key=ir aN k→kI I w aP x e.val→jN I w aN aP (l++[(k,x)]) (es++[e])
 | [],_,h,k,x,e,aa,af=>by rw[show _=[] from h];exact⟨e,[],rfl,aa,af,rfl⟩
 |p::l,_,⟨e',r,h,cj,cu,a3⟩,k,x,e,aa,af=>by rw[h];exact⟨e',r++[e],rfl,cj,cu,KR a3 aa af⟩
theorem KS: ∀{l:List (aI aN×aI aP)} {es:List MapEntry},jN I w aN aP l es→ ∀{k:aI aN} {x:aI aP} {e:MapEntry} (j:Nat),e.key=ir aN k→kI I w aP x e.val→jN I w aN aP (l.set j (k,x)) (es.set j e)
 | [],_,h,k,x,e,j,aa,af=>by rw[show _=[] from h];rfl
 |p::l,_,⟨e',r,h,cj,cu,a3⟩,k,x,e,0,aa,af=>by rw[h];exact⟨e,r,rfl,aa,af,a3⟩
 |p::l,_,⟨e',r,h,cj,cu,a3⟩,k,x,e,j+1,aa,af=>by rw[h];exact⟨e',r.set j e,rfl,cj,cu,KS a3 j aa af⟩
theorem KT: ∀{l:List (aI aN×aI aP)} {es:List MapEntry},jN I w aN aP l es→ ∀(j:Nat),jN I w aN aP (l.eraseIdx j) (es.eraseIdx j)
 | [],_,h,j=>by rw[show _=[] from h];rfl
 |p::l,_,⟨e',r,h,cj,cu,a3⟩,0=>by rw[h];exact a3
 |p::l,_,⟨e',r,h,cj,cu,a3⟩,j+1=>by rw[h];exact⟨e',r.eraseIdx j,rfl,cj,cu,KT a3 j⟩
theorem Rm {es:List MapEntry} {c:Nat} (h:oN es c) (key val:Value):oN (es++[⟨key,val,c⟩]) (c+1):=by
 refine⟨?_,fun e he=>?_⟩
 ·rw[List.map_append,List.pairwise_append]
  refine⟨h.1,by simp,fun a ha b ag=>?_⟩
  obtain⟨e,he,rfl⟩:=List.mem_map.1 ha
  simp only[List.map_cons,List.map_nil,List.mem_singleton] at ag
  subst ag
  exact h.2 e he
 ·rcases List.mem_append.1 he with he |he
  ·have:=h.2 e he;omega
  ·simp only[List.mem_singleton] at he;subst he;simp
theorem Rn {es:List MapEntry} {c:Nat} (h:oN es c) {j:Nat} {bx e:MapEntry} (au:es[j]? =some bx) (ag:e.born=bx.born):oN (es.set j e) c:=by
 have hm:(es.set j e).map (·.born)=es.map (·.born):=by
  rw[List.map_set]
  refine List.ext_getElem? fun i=>?_
  rw[List.getElem?_set]
  split
  ·rename_i aD
   subst aD
   have:=(List.getElem?_eq_some_iff.1 au).1
   rw[if_pos (by simpa using this),List.getElem?_map,au,ag]
   rfl
  ·rfl
 refine⟨by rw[hm];exact h.1,fun x hx=>?_⟩
 have aa:x.born∈(es.set j e).map (·.born):=List.mem_map_of_mem hx
 rw[hm] at aa
 obtain⟨y,aF,Ro⟩:=List.mem_map.1 aa
 rw[←Ro]
 exact h.2 y aF
theorem Rp {es:List MapEntry} {c:Nat} (h:oN es c) (j:Nat):oN (es.eraseIdx j) c:=
 ⟨h.1.sublist ((List.eraseIdx_sublist es j).map _),fun e he=>h.2 e ((List.eraseIdx_sublist es j).subset he)⟩
theorem Rq (a:aI aN) {d:TypeDesc} (hd:nQ aN d=true) (n:Nat):Instr.sameBits (n+1) (ir aN a) (ir aN a)=true:=by
 cases aN <;>cases d <;>simp[nQ] at hd
 ·have: ∀(k:IntKind) (a:Int),Instr.sameBits (n+1) (.int k a) (.int k a)=true:=fun k a=>by simp[Instr.sameBits]
  exact this _ a
 ·simp only[ir,Instr.sameBits]
  exact(MapKept.bytes_beq _ _).2 rfl
theorem CS {t kt et:TypeId} {d:TypeDesc} (cc:P.underlying t=some (.map kt et)) (aq:P.underlying kt=some d) (hd:nQ aN d=true) {b:Nat} {cX:List MapEntry} {clock:Nat} (ag:w.heap[b]? =some (.map (List.toArray cX) clock))
  {l:List (aI aN×aI aP)} (hm:jN I w aN aP l cX) (dy:oN cX clock) (k:aI aN) {x:aI aP} {v:Value} (hv:kI I w aP x v):
  ∃g6 lF,(Instr.mapUpdate t (.map (some b)) (ir aN k) v).run P w= .ok () {w with heap:=w.heap.setIfInBounds b (.map (List.toArray g6) lF)}∧jN I w aN aP (fc l k x) g6∧oN g6 lF:=by
 have hc:=fun e=>MapKept.run_checkKey (P:=P) (w:=w) aq (yK hd k) e 9999
 have gO:=fun o=>MapKept.run_setObj_map (P:=P) o ag
 rcases AI (I:=I) (w:=w) hd k l cX 0 hm with⟨cj,cu,a3,_⟩ |⟨j,y,e,cj,cu,a3,a4,a5,g5,_⟩
 ·have hf:=MapKept.run_findKey (P:=P) (w:=w) aq cj
  refine⟨cX++[⟨ir aN k,v,clock⟩],clock+1,?_,by rw[a3];exact KR hm rfl hv,Rm dy _ _⟩
  simp[Instr.mapUpdate,run_underlying cc,MapKept.run_getObj_map ag,hc,hf,gO,Result.andThen]
 ·have hf:=MapKept.run_findKey (P:=P) (w:=w) aq cj
  have oK:=(List.getElem?_eq_some_iff.1 a3).1
  refine⟨cX.set j ⟨ir aN k,v,e.born⟩,clock,?_,by rw[g5];exact KS hm j rfl hv,Rn dy a3 rfl⟩
  have KU:cX.modify j (fun e'=>{e' with key:=ir aN k,val:=v})=cX.set j ⟨ir aN k,v,e.born⟩:=by
   refine List.ext_getElem? fun i=>?_
   rw[List.getElem?_modify,List.getElem?_set]
   by_cases fG:j=i
   ·subst fG
    have he:=(List.getElem?_eq_some_iff.1 a3).2
    simp[oK,he]
   ·simp[fG]
  simp[Instr.mapUpdate,run_underlying cc,MapKept.run_getObj_map ag,hc,hf,gO,Result.andThen,a3,a4,Instr.keyThatStays,Rq k hd,KU]
theorem KV {t kt et ty:TypeId} {d:TypeDesc} (cc:P.underlying t=some (.map kt et)) (aq:P.underlying kt=some d) (hd:nQ aN d=true) {b:Nat} {cX:List MapEntry} {clock:Nat} (ag:w.heap[b]? =some (.map (List.toArray cX) clock))
  {l:List (aI aN×aI aP)} (hm:jN I w aN aP l cX) (dy:oN cX clock) (k:aI aN) (Rr:TypeId):
  ∃g6,(Builtin.delete_ #[t,Rr] ty #[.map (some b),ir aN k]).run P w= .ok (.tuple #[]) {w with heap:=w.heap.setIfInBounds b (.map (List.toArray g6) clock)}∧jN I w aN aP (iF l k) g6∧oN g6 clock:=by
 have hc:=fun e=>MapKept.run_checkKey (P:=P) (w:=w) aq (yK hd k) e 9999
 have gO:=fun o=>MapKept.run_setObj_map (P:=P) o ag
 rcases AI (I:=I) (w:=w) hd k l cX 0 hm with⟨cj,cu,_,a3⟩ |⟨j,y,e,cj,cu,a3,a4,a5,_,g5⟩
 ·have hf:=MapKept.run_findKey (P:=P) (w:=w) aq cj
  refine⟨cX,?_,by rw[a3];exact hm,dy⟩
  simp[Builtin.delete_,run_underlying cc,MapKept.run_getObj_map ag,hc,hf,gO,Result.andThen]
 ·have hf:=MapKept.run_findKey (P:=P) (w:=w) aq cj
  have oK:=(List.getElem?_eq_some_iff.1 a3).1
  refine⟨cX.eraseIdx j,?_,by rw[g5];exact KT hm j,Rp dy j⟩
  have Rs:(List.toArray cX).eraseIdxIfInBounds j=List.toArray (cX.eraseIdx j):=by
   apply Array.ext'
   unfold Array.eraseIdxIfInBounds
   rw[dif_pos (by simpa using oK)]
   simp
  simp[Builtin.delete_,run_underlying cc,MapKept.run_getObj_map ag,hc,hf,gO,Result.andThen,Rs]
theorem Rt {t:TypeId}:(Instr.makeMap t none).run P w= .ok (.map (some w.heap.size)) (w.alloc (.map #[] 0)):=by
 simp only[Instr.makeMap,Sem.run_bind,run_newObj_alloc,Result.andThen,Sem.run_pure]
end
end Go.Proofs.YteoamepgonpdlaaGreat
