/-
Part 1 of the proof that stands in YteoamepgonpdlaaGreatPbRow, with what it needs from the parts ahead; the parts of this text: Base, U, Mp.
-/
import Derived.WalkKit
import Derived.WalkSpells
import Derived.WalkLawsBesides
import Derived.BigQuiet
import Derived.Deep.QuietTactic
import Derived.Deep.RegionHeld3
import Derived.Deep.AppendLies
import Derived.Deep.DrawnRows
import Derived.Maps.AppendAt
import Derived.Laws.CopyOwn
import Derived.Lib.ConvBytes
import Derived.Lib.Hide
import Derived.RangeFuncRecord
import Derived.OrdersIn
import Derived.TacticsIn
import Derived.Sort.LoopGhostIn
import Derived.MapKept
import Derived.ChangeMaps4
namespace Go.Proofs.YteoamepgonpdlaaGreat
open Go.RowKit
structure Fr (S:Nat→Prop) (w w':World):Prop where
 os:w'.os=w.os
 tape:w'.tape=w.tape
 output:w'.output=w.output
 size:w.heap.size≤w'.heap.size
 block: ∀k,k < w.heap.size→ ¬S k→w'.heap[k]? =w.heap[k]?
theorem Fr.refl (S:Nat→Prop) (w:World):Fr S w w:=⟨rfl,rfl,rfl,Nat.le_refl _,fun _ _ _=>rfl⟩
theorem Fr.trans {S:Nat→Prop} {a b c:World} (h:Fr S a b) {S':Nat→Prop} (k:Fr S' b c) (hs: ∀i,i < a.heap.size→S' i→S i):Fr S a c:=
 ⟨k.os.trans h.os,k.tape.trans h.tape,k.output.trans h.output,Nat.le_trans h.size k.size,
  fun i ay hn=>(k.block i (Nat.lt_of_lt_of_le ay h.size) (fun x=>hn (hs i ay x))).trans (h.block i ay hn)⟩
theorem Fr.mono {S S':Nat→Prop} {w w':World} (h:Fr S w w') (hs: ∀i,i < w.heap.size→S i→S' i):Fr S' w w':=
 ⟨h.os,h.tape,h.output,h.size,fun i ay hn=>h.block i ay (fun x=>hn (hs i ay x))⟩
theorem Fr.q2 {S:Nat→Prop} {w w':World} (h:Below w.heap.size w w'):Fr S w w':=
 ⟨h.os,h.tape,h.output,h.size,fun i ay _=>h.block i ay⟩
theorem Fr.below {S:Nat→Prop} {B:Nat} {w w':World} (h:Fr S w w') (eA:B≤w.heap.size) (hs: ∀i,i < B→ ¬S i):Below B w w':=
 ⟨h.os,h.tape,h.output,h.size,fun i ay=>h.block i (by omega) (hs i ay)⟩
theorem Fr.cell {S:Nat→Prop} {w w':World} (h:Fr S w w') {p:Addr} {v:Value} (hp:w.cell? p=some v) (hs: ¬S p.block):w'.cell? p=some v:=
 (World.cell?_of_block (h.block p.block (World.block_lt_of_cell? w p hp) hs)).trans hp
theorem q3 {w:World} {b:Nat} {o:Obj} (h:w.heap[b]? =some o):b < w.heap.size:=by
 rcases Nat.lt_or_ge b w.heap.size with bH |uN
 ·exact bH
 ·rw[Array.getElem?_eq_none uN] at h;cases h
def fR (D:Nat→Prop) (w:World) (size:Nat) (v:Value) (n:Nat) (xs:List Value):Prop:=
 xs.length=n*size∧ ∃A c,v= .slice A n c∧n≤c∧c≤maxLen∧
  (0 < n→ ∃b o,A=some ⟨b,o,none⟩∧D b∧b < w.heap.size∧ ∀j u,xs[j]? =some u→w.cell? ⟨b,o+j,none⟩=some u)
def kR (D:Nat→Prop) (w w':World):Prop:= ∀i,i < w.heap.size→D i→w'.heap[i]? =w.heap[i]?
theorem kR.refl (D:Nat→Prop) (w:World):kR D w w:=fun _ _ _=>rfl
theorem kR.cell {D:Nat→Prop} {w w':World} (h:kR D w w') {p:Addr} {v:Value} (hp:w.cell? p=some v) (hs:D p.block):w'.cell? p=some v:=
 (World.cell?_of_block (h p.block (World.block_lt_of_cell? w p hp) hs)).trans hp
theorem kR.q2 {D:Nat→Prop} {w w':World} (h:Below w.heap.size w w'):kR D w w':=fun i ay _=>h.block i ay
theorem fR.mono {D jQ:Nat→Prop} {w w':World} {size n:Nat} {v:Value} {xs:List Value} (h:fR D w size v n xs) (au:kR D w w') (hw:w.heap.size≤w'.heap.size) (hd: ∀i,i < w.heap.size→D i→jQ i):fR jQ w' size v n xs:=by
 obtain⟨aB,A,c,rfl,aa,af,aA⟩:=h
 refine⟨aB,A,c,rfl,aa,af,fun hn=>?_⟩
 obtain⟨b,o,rfl,bW,ag,hc⟩:=aA hn
 exact⟨b,o,rfl,hd b ag bW,by omega,fun j u ak=>au.cell (hc j u ak) bW⟩
theorem fR.nil (D:Nat→Prop) (w:World) (size:Nat):fR D w size (.slice none 0 0) 0 []:=⟨by simp,none,0,rfl,Nat.le_refl _,by decide,fun h=>absurd h (by omega)⟩
theorem fR.at_ {D:Nat→Prop} {w:World} {size n:Nat} {v:Value} {xs:List Value} (h:fR D w size v n xs) (hn:0 < n):
  ∃b o c,v= .slice (some ⟨b,o,none⟩) n c∧n≤c∧c≤maxLen∧D b∧b < w.heap.size∧ ∀j u,xs[j]? =some u→w.cell? ⟨b,o+j,none⟩=some u:=by
 obtain⟨aB,A,c,rfl,aa,af,aA⟩:=h
 obtain⟨b,o,rfl,bW,ag,hc⟩:=aA hn
 exact⟨b,o,c,rfl,aa,af,bW,ag,hc⟩
def iC (c:UInt8):Value:=.int .u8 c.toNat
def Bytes (D:Nat→Prop) (w:World) (v:Value) (l:List UInt8):Prop:=fR D w 1 v l.length (l.map iC)
theorem Bytes.mono {D jQ:Nat→Prop} {w w':World} {v:Value} {l:List UInt8} (h:Bytes D w v l) (au:kR D w w') (hw:w.heap.size≤w'.heap.size) (hd: ∀i,i < w.heap.size→D i→jQ i):Bytes jQ w' v l:=fR.mono h au hw hd
def kE {α:Type} (R:World→α→List Value→Prop) (w:World):List α→List Value→Prop
 | [],xs=>xs=[]
 |a::l,xs=> ∃c r,xs=c++r∧R w a c∧kE R w l r
theorem kE.mono {α:Type} {R R':World→α→List Value→Prop} {w w':World} (h: ∀a c,R w a c→R' w' a c): ∀(l:List α) (xs:List Value),kE R w l xs→kE R' w' l xs
 | [],_,hx=>hx
 |_::l,_,⟨c,r,hx,hc,hr⟩=>⟨c,r,hx,h _ _ hc,kE.mono h l r hr⟩
theorem kE.get {α:Type} {R:World→α→List Value→Prop} {w:World} {s:Nat} (hs: ∀a c,R w a c→c.length=s): ∀(l:List α) (xs:List Value),kE R w l xs→ ∀(k:Nat) (au:k < l.length),
  ∃c,R w l[k] c∧ ∀j,j < s→xs[k*s+j]? =c[j]?
 |a::l,_,⟨c,r,hx,hc,hr⟩,0,_=>⟨c,hc,fun j ak=>by rw[hx,Nat.zero_mul,Nat.zero_add,List.getElem?_append_left (by rw[hs _ _ hc];exact ak)]⟩
 |a::l,_,⟨c,r,hx,hc,hr⟩,k+1,au=>by
  obtain⟨bY,dw,ak⟩:=kE.get hs l r hr k (by simpa using au)
  refine⟨bY,dw,fun j h=>?_⟩
  have:=hs _ _ hc
  rw[hx,List.getElem?_append_right (by rw[this,Nat.add_mul];omega),←ak j h]
  congr 1
  rw[this,Nat.add_mul]
  omega
theorem kE.length {α:Type} {R:World→α→List Value→Prop} {w:World} {s:Nat} (hs: ∀a c,R w a c→c.length=s): ∀(l:List α) (xs:List Value),kE R w l xs→xs.length=l.length*s
 | [],xs,hx=>by cases hx;simp
 |a::l,_,⟨c,r,hx,hc,hr⟩=>by rw[hx,List.length_append,hs _ _ hc,kE.length hs l r hr,List.length_cons,Nat.add_mul];omega
structure lq where
 C:Int
 B:List UInt8
structure ET where
 name:ByteArray
 parent:ByteArray
 bits:Int
 size:Int
 pieces:List lq
def sg (D:Nat→Prop) (w:World) (p:lq) (c:List Value):Prop:= ∃bv,c=[.int .i64 p.C,bv]∧Bytes D w bv p.B
def oG (D:Nat→Prop) (w:World) (v:Value) (l:List lq):Prop:= ∃xs,fR D w 2 v l.length xs∧kE (sg D) w l xs
def z1 (D:Nat→Prop) (w:World) (b:ET) (c:List Value):Prop:=
 ∃pv,c=[.string b.name,.string b.parent,.int .i64 b.bits,.int .i64 b.size,pv]∧oG D w pv b.pieces
theorem sg.mono {D jQ:Nat→Prop} {w w':World} (au:kR D w w') (hw:w.heap.size≤w'.heap.size) (hd: ∀i,i < w.heap.size→D i→jQ i) (p:lq) (c:List Value) (h:sg D w p c):sg jQ w' p c:=by
 obtain⟨bv,hc,ag⟩:=h
 exact⟨bv,hc,ag.mono au hw hd⟩
theorem oG.mono {D jQ:Nat→Prop} {w w':World} {v:Value} {l:List lq} (h:oG D w v l) (au:kR D w w') (hw:w.heap.size≤w'.heap.size) (hd: ∀i,i < w.heap.size→D i→jQ i):oG jQ w' v l:=by
 obtain⟨xs,aa,af⟩:=h
 exact⟨xs,aa.mono au hw hd,kE.mono (sg.mono au hw hd) l xs af⟩
theorem z1.mono {D jQ:Nat→Prop} {w w':World} (au:kR D w w') (hw:w.heap.size≤w'.heap.size) (hd: ∀i,i < w.heap.size→D i→jQ i) (b:ET) (c:List Value) (h:z1 D w b c):z1 jQ w' b c:=by
 obtain⟨pv,hc,hp⟩:=h
 exact⟨pv,hc,hp.mono au hw hd⟩
theorem sg.len {D:Nat→Prop} {w:World} (p:lq) (c:List Value) (h:sg D w p c):c.length=2:=by obtain⟨bv,rfl,_⟩:=h;rfl
theorem z1.len {D:Nat→Prop} {w:World} (b:ET) (c:List Value) (h:z1 D w b c):c.length=5:=by obtain⟨pv,rfl,_⟩:=h;rfl
theorem oG.at_ {D:Nat→Prop} {w:World} {A:Option Addr} {n c:Nat} {l:List lq} (h:oG D w (.slice A n c) l) {k:Nat} (au:k < n):
  n=l.length∧ ∃b o bv,∃EU:k < l.length,A=some ⟨b,o,none⟩∧D b∧b < w.heap.size∧w.cell? ⟨b,o+k*2,none⟩=some (.int .i64 (l[k]'EU).C)∧w.cell? ⟨b,o+k*2+1,none⟩=some bv∧Bytes D w bv (l[k]'EU).B:=by
 obtain⟨xs,⟨aB,tD,bY,he,_,_,aA⟩,hr⟩:=h
 injection he with ai aq bk
 subst ai aq bk
 obtain⟨b,o,rfl,bW,ag,hc⟩:=aA (by omega)
 obtain⟨cs,⟨bv,rfl,eA⟩,ak⟩:=kE.get sg.len l xs hr k au
 refine⟨rfl,b,o,bv,au,rfl,bW,ag,?_,?_,eA⟩
 ·exact hc (k*2) _ (by simpa using ak 0 (by omega))
 ·have:=hc (k*2+1) _ (by simpa using ak 1 (by omega))
  simpa[Nat.add_assoc] using this
theorem oG.form {D:Nat→Prop} {w:World} {v:Value} {l:List lq} (h:oG D w v l): ∃A c,v= .slice A l.length c∧l.length≤c∧c≤maxLen:=by
 obtain⟨xs,⟨_,A,c,rfl,aa,af,_⟩,_⟩:=h
 exact⟨A,c,rfl,aa,af⟩
theorem Bytes.form {D:Nat→Prop} {w:World} {v:Value} {l:List UInt8} (h:Bytes D w v l): ∃A c,v= .slice A l.length c∧l.length≤c∧c≤maxLen:=by
 obtain⟨_,A,c,rfl,aa,af,_⟩:=h
 exact⟨A,c,rfl,aa,af⟩
theorem ql (b o j:Nat):(⟨b,o,none⟩:Addr).add j=⟨b,o+j,none⟩:=by
 unfold Addr.add
 split
 ·rename_i h;subst h;rfl
 ·rfl
theorem PU {P:Program} (w:World) (base:Nat) (t ty e:TypeId) (i:TypeInfo) (size:Nat) (cl:P.underlying t=some (.slice e)) (ay:P.info? e=some i)
  (v:Value) (n:Nat) (xs:List Value) (dF:w.ownsRow base e size v n xs) (c:Nat):(Builtin.append_ #[t,t] ty #[v,.slice none 0 c]).run P w= .ok v w:=by
 rcases dF.2 with⟨rfl,rfl⟩ |⟨g,cap,cur,rfl,_,_,z2,_⟩
 ·simp[Builtin.append_,run_underlying cl,sizeOf,typeInfo,ay,Builtin.lenOf,Builtin.firstCells]
 ·simp[Builtin.append_,run_underlying cl,sizeOf,typeInfo,ay,Builtin.lenOf,Builtin.firstCells,z2,storeCells]
theorem JQ {P:Program} (w:World) (base:Nat) (t ty e:TypeId) (i:TypeInfo) (z:Value) (size bytes:Nat) (cl:P.underlying t=some (.slice e)) (ay:P.info? e=some i) (aS:i.zero=some z)
  (PV:i.size=size) (z6:i.bytes=bytes) (uO:z.cells.size=size) (ek:0 < size)
  (v:Value) (n:Nat) (xs:List Value) (dF:w.ownsRow base e size v n xs)
  (D:Nat→Prop) (src:Value) (m:Nat) (news:List Value) (hr:fR D w size src m news) (aa: ∀u∈news,u.oneCell'=true)
  (PW:n+m≤maxLen) (PX:(n+m)*bytes≤140737488355328) (PY:base≤w.heap.size):
  ∃v' w',(Builtin.append_ #[t,t] ty #[v,src]).run P w= .ok v' w'∧w'.ownsRow base e size v' (n+m) (xs++news)∧w.grownBy w' v.ownBlock∧
   (v'.ownBlock=v.ownBlock∨v'.ownBlock=some w.heap.size):=by
 obtain⟨aB,A,c,rfl,_,_,aA⟩:=hr
 rcases A with _ |ad
 ·have hm:m=0:=by
   rcases Nat.eq_zero_or_pos m with aC |aC
   ·exact aC
   ·obtain⟨b,o,h,_⟩:=aA aC
    cases h
  subst hm
  have hn:news=[]:=List.eq_nil_of_length_eq_zero (by simpa using aB)
  subst hn
  exact⟨v,w,PU w base t ty e i size cl ay v n xs dF c,by simpa using dF,World.grownBy.refl w _,.inl rfl⟩
 ·have wj: ∀j u,news[j]? =some u→w.cell? (ad.add j)=some u:=by
   intro j u hu
   rcases Nat.eq_zero_or_pos m with aC |aC
   ·subst aC
    have hn:news=[]:=List.eq_nil_of_length_eq_zero (by simpa using aB)
    subst hn
    simp at hu
   ·obtain⟨b,o,h,_,_,hc⟩:=aA aC
    injection h with h
    subst h
    rw[ql]
    exact hc j u hu
  obtain⟨v',w',ef,af,bE,_,ec⟩:=run_append_own_at (P:=P) w base t ty e i z size bytes cl ay aS PV z6 uO ek v n xs dF ad m c news aB wj aa PW PX PY
  exact⟨v',w',ef,af,bE,ec⟩
theorem PZ (l:List UInt8): ∀u∈l.map iC,u.oneCell'=true:=by
 intro u hu
 obtain⟨c,_,rfl⟩:=List.mem_map.1 hu
 rfl
theorem fR.wk {w:World} {base:Nat} {e:TypeId} {size n:Nat} {v:Value} {xs:List Value} (h:w.ownsRow base e size v n xs):fR (fun i=>v.ownBlock=some i) w size v n xs:=by
 refine⟨h.1,?_⟩
 rcases h.2 with⟨rfl,rfl⟩ |⟨g,cap,cur,rfl,bl,bM,aa,af,aA,bE⟩
 ·exact⟨none,0,rfl,Nat.le_refl _,by decide,fun h=>absurd h (by omega)⟩
 ·refine⟨_,cap,rfl,aa,af,fun _=>⟨g,0,rfl,rfl,(h.lt g rfl).2,fun j u ak=>?_⟩⟩
  have:=h.cells (g:=g) rfl j u ak
  rwa[ql] at this
theorem fR.weaken {D jQ:Nat→Prop} {w:World} {size n:Nat} {v:Value} {xs:List Value} (h:fR D w size v n xs) (hd: ∀i,i < w.heap.size→D i→jQ i):fR jQ w size v n xs:=h.mono (kR.refl _ _) (Nat.le_refl _) hd
theorem keep {W cx:World} (ag:Below W.heap.size W cx) {p:Addr} {v:Value} (h:W.cell? p=some v):cx.cell? p=some v:=
 (ag.cell (World.block_lt_of_cell? W p h)).trans h
def nr (w:World) (g:Nat) (l:List Value):Prop:= ∃t,w.heap[g]? =some (.cells l.toArray t (0,0))
theorem nr.c {w:World} {g:Nat} {l:List Value} (h:nr w g l) (j:Nat) (u:Value) (ak:l[j]? =some u):w.cell? ⟨g,j,none⟩=some u:=by
 obtain⟨t,h⟩:=h
 simp[World.cell?,h,ak]
theorem nr.keep {W cx:World} (ag:Below W.heap.size W cx) {g:Nat} {l:List Value} (h:nr W g l):nr cx g l:=by
 obtain⟨t,h⟩:=h
 exact⟨t,(ag.block g (q3 h)).trans h⟩
theorem nr.gz {W cx:World} {g:Nat} {l:List Value} (h:nr W g l) (ag:cx.heap[g]? =W.heap[g]?):nr cx g l:=by
 obtain⟨t,h⟩:=h
 exact⟨t,ag.trans h⟩
theorem nr.lt {w:World} {g:Nat} {l:List Value} (h:nr w g l):g < w.heap.size:=by
 obtain⟨t,h⟩:=h
 exact q3 h
theorem nr.set {w:World} {g:Nat} {l:List Value} (h:nr w g l) (j:Nat) (u:Value):nr (w.setCell ⟨g,j,none⟩ u) g (l.set j u):=by
 obtain⟨t,h⟩:=h
 refine⟨t,?_⟩
 simp[World.setCell,Array.getElem?_modify,h]
theorem nr.other {w:World} {g:Nat} {l:List Value} (h:nr w g l) {p:Addr} (hp:g≠p.block) (u:Value):nr (w.setCell p u) g l:=h.gz (Below.heap_setCell w p u g hp)
theorem oG.below {D:Nat→Prop} {w w':World} {v:Value} {l:List lq} (h:oG D w v l) (ag:Below w.heap.size w w'):oG D w' v l:=
 h.mono (kR.q2 ag) ag.size fun _ _ h=>h
theorem Bytes.below {D:Nat→Prop} {w w':World} {v:Value} {l:List UInt8} (h:Bytes D w v l) (ag:Below w.heap.size w w'):Bytes D w' v l:=
 h.mono (kR.q2 ag) ag.size fun _ _ h=>h
theorem fR.below {D:Nat→Prop} {w w':World} {size n:Nat} {v:Value} {xs:List Value} (h:fR D w size v n xs) (ag:Below w.heap.size w w'):fR D w' size v n xs:=
 h.mono (kR.q2 ag) ag.size fun _ _ h=>h
theorem tE (w:World) (o:Obj):Below w.heap.size w (w.alloc o):=(Below.refl _ _).alloc (Nat.le_refl _) _
theorem P0 (w:World):Below w.heap.size w w.drew:=(Below.refl _ _).drew
def P3 {α:Type} (R:(Nat→Prop)→World→α→List Value→Prop):Prop:=
 ∀(D jQ:Nat→Prop) (w w':World),kR D w w'→w.heap.size≤w'.heap.size→(∀i,i < w.heap.size→D i→jQ i)→ ∀a c,R D w a c→R jQ w' a c
def aZ (B:Nat) (v:Value):Nat→Prop:=fun i=>B≤i∧v.ownBlock≠some i
def wm {α:Type} (R:(Nat→Prop)→World→α→List Value→Prop) (T s:Nat) (w:World) (B:Nat) (v:Value) (l:List α):Prop:=
 ∃xs,w.ownsRow B T s v l.length xs∧kE (R (aZ B v)) w l xs
theorem wm.nil {α:Type} (R:(Nat→Prop)→World→α→List Value→Prop) (T s:Nat) (w:World) (B:Nat):wm R T s w B (.slice none 0 0) []:=⟨[],World.ownsRow_nil _ _ _ _,rfl⟩
theorem P4 {w w':World} {base:Nat} {e:TypeId} {size n:Nat} {v:Value} {xs:List Value} (h:w.ownsRow base e size v n xs) (ag:Below w.heap.size w w'):w'.ownsRow base e size v n xs:=
 h.kept (row:=none) ⟨ag.os,ag.tape,ag.output,ag.size,fun k au _=>ag.block k au⟩ (by cases v.ownBlock <;>simp)
theorem wm.below {α:Type} {R:(Nat→Prop)→World→α→List Value→Prop} (hR:P3 R) {T s:Nat} {w w':World} {B:Nat} {v:Value} {l:List α} (h:wm R T s w B v l) (ag:Below w.heap.size w w'):wm R T s w' B v l:=by
 obtain⟨xs,aa,af⟩:=h
 exact⟨xs,P4 aa ag,kE.mono (fun a c hc=>hR _ _ _ _ (kR.q2 ag) ag.size (fun _ _ h=>h) a c hc) l xs af⟩
theorem wm.pieces {T:Nat} {w:World} {B:Nat} {v:Value} {l:List lq} (h:wm sg T 2 w B v l):oG (fun i=>B≤i) w v l:=by
 obtain⟨xs,aa,af⟩:=h
 exact⟨xs,(fR.wk aa).weaken fun i _ ay=>(aa.lt i ay).1,kE.mono (fun a c hc=>sg.mono (kR.refl _ _) (Nat.le_refl _) (fun i _ ay=>ay.1) a c hc) l xs af⟩
theorem oG.get {D:Nat→Prop} {w:World} {A:Option Addr} {n c:Nat} {l:List lq} (h:oG D w (.slice A n c) l) {k:Nat} {p:lq} (hx:l[k]? =some p):
  ∃b o tD bY,A=some ⟨b,o,none⟩∧D b∧b < w.heap.size∧w.cell? ⟨b,o+k*2,none⟩=some (.int .i64 p.C)∧w.cell? ⟨b,o+k*2+1,none⟩=some (.slice tD p.B.length bY)∧Bytes D w (.slice tD p.B.length bY) p.B∧p.B.length≤bY∧bY≤maxLen:=by
 obtain⟨au,rfl⟩:=List.getElem?_eq_some_iff.1 hx
 have hn:n=l.length:=by obtain⟨tD,bY,he,_,_⟩:=h.form;injection he
 obtain⟨-,b,o,bv,EU,rfl,bW,ag,cy,bp,eA⟩:=h.at_ (k:=k) (by omega)
 obtain⟨tD,bY,rfl,aa,af⟩:=eA.form
 exact⟨b,o,tD,bY,rfl,bW,ag,cy,bp,eA,aa,af⟩
theorem fR.drew {D:Nat→Prop} {w:World} {size n:Nat} {v:Value} {xs:List Value} (h:fR D w size v n xs):fR D w.drew size v n xs:=h
theorem P5 {w w':World} {row:Option Nat} {S:Nat→Prop} (bl:w.grownBy w' row) (hr: ∀k,row=some k→S k):Fr S w w':=
 ⟨bl.os,bl.tape,bl.output,bl.size,fun k au hn=>bl.block k au (fun e=>hn (hr k e.symm))⟩
theorem P6 {D:Nat→Prop} {w:World} {m:Nat} {src:Value} {ys:List Value} (h:fR D w 1 src m ys) (tF:Nat):
  ∃sp Ce,src= .slice sp m Ce∧(ys.take tF).length=Nat.min m tF∧(0 < (ys.take tF).length→ ∃ad,sp=some ad∧ ∀j v,(ys.take tF)[j]? =some v→w.cell? (ad.add j)=some v):=by
 obtain⟨aB,A,c,rfl,_,_,aA⟩:=h
 have q4:ys.length=m:=by omega
 have P7:(ys.take tF).length=Nat.min m tF:=by rw[List.length_take,q4];exact Nat.min_comm _ _
 refine⟨A,c,rfl,P7,fun hp=>?_⟩
 have hm:0 < m:=by
  have:=Nat.min_le_left m tF
  have e:min m tF=Nat.min m tF:=rfl
  omega
 obtain⟨b,o,rfl,_,_,hc⟩:=aA hm
 refine⟨_,rfl,fun j v ak=>?_⟩
 rw[ql]
 refine hc j v ?_
 rw[List.getElem?_take] at ak
 split at ak
 ·exact ak
 ·cases ak
theorem P8 {P:Program} (w:World) (src dst e:TypeId) (s:ByteArray) (hs:P.underlying src=some .string) (hd:P.underlying dst=some (.slice e)) (he:P.underlying e=some (.int .u8)) (hm:s.size≤4294967296):
  ∃cap cx,(convert src dst (.string s)).run P w= .ok (.slice (some ⟨w.heap.size,0,none⟩) s.size cap) cx∧Bytes (fun i=>w.heap.size≤i) cx (.slice (some ⟨w.heap.size,0,none⟩) s.size cap) s.data.toList∧Below w.heap.size w cx:=by
 refine⟨_,_,Lib.run_convert_string_bytes w src dst e s hs hd he,?_,?_⟩
 ·have aB:s.data.toList.length=s.size:=by simp
  unfold Bytes
  rw[aB]
  refine⟨by rw[List.length_map,aB];omega,_,_,rfl,grownCap_ge _ _ _ _,grownCap_le_maxLen _ _ _ _ (by simp only[maxLen];omega),fun _=>⟨_,0,rfl,Nat.le_refl _,by rw[Lib.bytesWorld_size];omega,fun j u ak=>?_⟩⟩
  have oc:j < s.data.toList.length:=by
   have:=(List.getElem?_eq_some_iff.1 ak).1
   simpa using this
  rw[Nat.zero_add,Lib.bytesWorld_cell w e s j (by omega)]
  rw[List.getElem?_map,List.getElem?_eq_getElem oc] at ak
  simp only[Option.map_some,Option.some.injEq] at ak
  rw[←ak,List.getD_eq_getElem?_getD,List.getElem?_eq_getElem oc]
  rfl
 ·exact⟨rfl,rfl,rfl,by rw[Lib.bytesWorld_size];omega,fun k au=>Lib.bytesWorld_at_old w e s k au⟩
theorem JR {P:Program} {D:Nat→Prop} {w:World} {A:Option Addr} {n c:Nat} {l:List UInt8} (h:Bytes D w (.slice A n c) l) (src dst e:TypeId) (hs:P.underlying src=some (.slice e)) (he:P.underlying e=some (.int .u8)) (hd:P.underlying dst=some .string):
  (convert src dst (.slice A n c)).run P w= .ok (.string ⟨l.toArray⟩) w:=by
 obtain⟨aB,tD,bY,hv,_,_,aA⟩:=h
 injection hv with ai aq bk
 subst ai aq bk
 rcases A with _ |ad
 ·have aC:l=[]:=by
   rcases Nat.eq_zero_or_pos l.length with h |h
   ·exact List.eq_nil_of_length_eq_zero h
   ·obtain⟨b,o,ha,_⟩:=aA h;cases ha
  subst aC
  exact run_convert_bytes_nil w src e hs he _ _ dst hd
 ·refine run_convert_bytes_back w src dst e ad _ l hs he hd fun j ak=>?_
  obtain⟨b,o,ha,_,_,hc⟩:=aA (by omega)
  injection ha with ha
  subst ha
  rw[ql]
  exact hc j _ (by simp[List.getElem?_eq_getElem ak,iC])
def z7 (_:Nat→Prop) (_:World) (p:lq) (c:List Value):Prop:=c=[.int .i64 p.C,.string ⟨p.B.toArray⟩]
def si (D:Nat→Prop) (w:World) (v:Value) (l:List lq):Prop:= ∃xs,fR D w 2 v l.length xs∧kE (z7 D) w l xs
theorem si.mono {D jQ:Nat→Prop} {w w':World} {v:Value} {l:List lq} (h:si D w v l) (au:kR D w w') (hw:w.heap.size≤w'.heap.size) (hd: ∀i,i < w.heap.size→D i→jQ i):si jQ w' v l:=by
 obtain⟨xs,aa,af⟩:=h
 exact⟨xs,aa.mono au hw hd,kE.mono (R:=z7 D) (R':=z7 jQ) (fun _ _ h=>h) l xs af⟩
theorem si.below {D:Nat→Prop} {w w':World} {v:Value} {l:List lq} (h:si D w v l) (ag:Below w.heap.size w w'):si D w' v l:=h.mono (kR.q2 ag) ag.size fun _ _ h=>h
theorem si.form {D:Nat→Prop} {w:World} {v:Value} {l:List lq} (h:si D w v l): ∃A c,v= .slice A l.length c∧l.length≤c∧c≤maxLen:=by
 obtain⟨xs,⟨_,A,c,rfl,aa,af,_⟩,_⟩:=h
 exact⟨A,c,rfl,aa,af⟩
theorem fR.elem {α:Type} {D:Nat→Prop} {w:World} {s:Nat} {A:Option Addr} {n c:Nat} {l:List α} {xs:List Value} {R:World→α→List Value→Prop} (h:fR D w s (.slice A n c) l.length xs) (hr:kE R w l xs) (hs: ∀a c,R w a c→c.length=s) {k:Nat} {x:α} (hx:l[k]? =some x):
  n=l.length∧k < n∧ ∃b o cs,A=some ⟨b,o,none⟩∧D b∧b < w.heap.size∧R w x cs∧ ∀j u,cs[j]? =some u→w.cell? ⟨b,o+(k*s+j),none⟩=some u:=by
 obtain⟨au,rfl⟩:=List.getElem?_eq_some_iff.1 hx
 obtain⟨aB,tD,bY,he,_,_,aA⟩:=h
 injection he with ai aq bk
 subst ai aq bk
 obtain⟨b,o,rfl,bW,ag,hc⟩:=aA (by omega)
 obtain⟨cs,hR,ak⟩:=kE.get hs l xs hr k au
 refine⟨rfl,au,b,o,cs,rfl,bW,ag,hR,fun j u JS=>hc _ u ?_⟩
 have P9:j < s:=by rw[←hs _ _ hR];exact(List.getElem?_eq_some_iff.1 JS).1
 rw[ak j P9];exact JS
theorem si.get {D:Nat→Prop} {w:World} {A:Option Addr} {n c:Nat} {l:List lq} (h:si D w (.slice A n c) l) {k:Nat} {p:lq} (hx:l[k]? =some p):
  ∃b o,A=some ⟨b,o,none⟩∧D b∧b < w.heap.size∧w.cell? ⟨b,o+k*2,none⟩=some (.int .i64 p.C)∧w.cell? ⟨b,o+k*2+1,none⟩=some (.string ⟨p.B.toArray⟩):=by
 obtain⟨xs,aa,af⟩:=h
 obtain⟨-,-,b,o,cs,rfl,bW,ag,hR,hc⟩:=fR.elem aa af (fun a c h=>by unfold z7 at h;subst h;rfl) hx
 unfold z7 at hR
 subst hR
 refine⟨b,o,rfl,bW,ag,?_,?_⟩
 ·simpa using hc 0 _ rfl
 ·simpa[Nat.add_assoc] using hc 1 _ rfl
theorem EV {w:World} (o:Obj) {g:Nat} (h:g=w.heap.size):(w.alloc o).heap[g]? =some o:=by subst h;exact heap_alloc_new w o
end Go.Proofs.YteoamepgonpdlaaGreat
namespace Go.Proofs.YteoamepgonpdlaaGreat
set_option linter.unusedVariables false
set_option linter.unusedSimpArgs false
open Go.RowKit
inductive U where
 |int (k:IntKind)
 |u8
 |bool
 |str
 |aW
 |dg
 |fn
 |sl (u:U)
 |pr (u v:U)
 |arr (n:Nat) (u:U)
def aJ:U→Type
 | .int _=>Int
 | .u8=>UInt8
 | .bool=>Bool
 | .str=>List UInt8
 | .aW=>Option Nat
 | .dg=>Option (Nat×Nat×Nat)
 | .fn=>Nat×List Nat
 | .sl u=>List (aJ u)
 | .pr u v=>aJ u×aJ v
 | .arr _ u=>List (aJ u)
def aM:U→Nat
 | .int _=>1
 | .u8=>1
 | .bool=>1
 | .str=>1
 | .aW=>1
 | .dg=>1
 | .fn=>1
 | .sl _=>1
 | .pr u v=>aM u+aM v
 | .arr n u=>n*aM u
def dflt:(u:U)→aJ u
 | .int _=>(0:Int)
 | .u8=>(0:UInt8)
 | .bool=>false
 | .str=>([]:List UInt8)
 | .aW=>(none:Option Nat)
 | .dg=>(none:Option (Nat×Nat×Nat))
 | .fn=>((0,[]):Nat×List Nat)
 | .sl _=>[]
 | .pr u v=>(dflt u,dflt v)
 | .arr n u=>List.replicate n (dflt u)
inductive D where
 |int (k:IntKind) (n:Int)
 |lit (b:Bool)
 |bool (b:Bool)
 |str (s:List UInt8)
 |aW (x:Option Nat)
 |dg (x:Option (Nat×Nat×Nat))
 |fn (x:Nat×List Nat)
 |cW (u:U) (xs:List (aJ u))
def eW:(u:U)→aJ u→Nat→D
 | .int k,n,_=>.int k n
 | .u8,b,_=>.int .u8 (UInt8.toNat b:Int)
 | .bool,b,_=>.bool b
 | .str,s,_=>.str s
 | .aW,x,_=>.aW x
 | .dg,x,_=>.dg x
 | .fn,x,_=>.fn x
 | .sl u,xs,_=>.cW u xs
 | .pr u v,p,j=>match Nat.blt j (aM u) with
  |true=>eW u p.1 j
  |false=>eW v p.2 (j - aM u)
 | .arr _ u,xs,j=>eW u (List.getD xs (j/aM u) (dflt u)) (j % aM u)
def ff {α:Type} (xs:List α) (i:Nat):Option α:=xs[i]?
def Cf {α:Type} (x:α) (xs:List α):Prop:=x∈xs
theorem Qa {α:Type} (xs:List α) (i:Nat) (d:α) (h:i < xs.length):ff xs i=some (xs.getD i d):=by
 unfold ff
 rw[List.getD_eq_getElem?_getD,List.getElem?_eq_getElem h]
 rfl
theorem Qb {α:Type} {xs:List α} {i:Nat} {y:α} (d:α) (h:ff xs i=some y):xs.getD i d=y:=by
 unfold ff at h
 rw[List.getD_eq_getElem?_getD,h]
 rfl
theorem z8 {α:Type} {xs:List α} {i:Nat} {y:α} (h:ff xs i=some y):i < xs.length:=(List.getElem?_eq_some_iff.1 h).1
theorem Qc {α:Type} {xs:List α} {i:Nat} {y:α} (h:ff xs i=some y):Cf y xs:=List.mem_of_getElem? h
def nt:(u:U)→aJ u→Prop
 | .pr u v,p=>nt u p.1∧nt v p.2
 | .arr n u,xs=>List.length xs=n∧ ∀x,Cf (α:=aJ u) x xs→nt u x
 |_,_=>True
def nu:Option Nat→Option Addr
 |none=>none
 |some b=>some ⟨b,0,none⟩
def qm:Option (Nat×Nat×Nat)→Value
 |none=>.slice none 0 0
 |some (b,n,cap)=>.slice (some ⟨b,0,none⟩) n cap
def qo:List Nat→List Value
 | []=>[]
 |b::l=>.pointer (some ⟨b,0,none⟩)::qo l
def tG (x:Nat×List Nat):Value:=.func (.func x.1) #[] (List.toArray (qo x.2))
def cg (I:Nat→Prop) (w:World):(u:U)→aJ u→(Nat→Option Value)→Prop
 | .int k,n,c=>c 0=some (.int k n)
 | .u8,b,c=>c 0=some (.int .u8 (UInt8.toNat b:Int))
 | .bool,b,c=>c 0=some (.bool b)
 | .str,s,c=>c 0=some (.string ⟨List.toArray s⟩)
 | .aW,x,c=>c 0=some (.pointer (nu x))
 | .dg,x,c=>c 0=some (qm x)
 | .fn,x,c=>c 0=some (tG x)
 | .sl u,xs,c=> ∃A cap,c 0=some (.slice A (List.length xs) cap)∧List.length xs≤cap∧cap≤maxLen∧
  (0 < List.length xs→ ∃b o,A=some ⟨b,o,none⟩∧I b∧ ∀i x,ff (α:=aJ u) xs i=some x→cg I w u x (fun j=>w.cell? ⟨b,o+(i*aM u+j),none⟩))
 | .pr u v,p,c=>cg I w u p.1 c∧cg I w v p.2 (fun j=>c (aM u+j))
 | .arr n u,xs,c=>List.length xs=n∧ ∀i x,ff (α:=aJ u) xs i=some x→cg I w u x (fun j=>c (i*aM u+j))
def Den (I:Nat→Prop) (w:World):D→Value→Prop
 | .int k n,v=>v= .int k n
 | .lit b,v=>v= .bool b
 | .bool b,v=>v= .bool b
 | .str s,v=>v= .string ⟨s.toArray⟩
 | .aW x,v=>v= .pointer (nu x)
 | .dg x,v=>v=qm x
 | .fn x,v=>v=tG x
 | .cW u xs,v=>cg I w (.sl u) xs (fun _=>some v)
def Ext (I:Nat→Prop) (w:World) (I':Nat→Prop) (w':World):Prop:= ∀b,I b→I' b∧w'.heap[b]? =w.heap[b]?
section
variable {I I':Nat→Prop} {w w':World}
theorem Ext.refl (I:Nat→Prop) (w:World):Ext I w I w:=fun _ h=>⟨h,rfl⟩
theorem Ext.trans {JT:Nat→Prop} {JU:World} (h:Ext I w I' w') (k:Ext I' w' JT JU):Ext I w JT JU:=fun b ag=>⟨(k b (h b ag).1).1,(k b (h b ag).1).2.trans (h b ag).2⟩
theorem JV {b o:Nat} {v:Value} (h:w'.heap[b]? =w.heap[b]?) (hc:w.cell? ⟨b,o,none⟩=some v):w'.cell? ⟨b,o,none⟩=some v:=
 (World.cell?_of_block (a:=⟨b,o,none⟩) h).trans hc
theorem cg.mono (he:Ext I w I' w'): ∀(u:U) (x:aJ u) (c bY:Nat→Option Value),(∀j v,c j=some v→bY j=some v)→cg I w u x c→cg I' w' u x bY:=by
 intro u
 induction u with
 |int k=>exact fun x c bY hc h=>hc _ _ h
 |u8=>exact fun x c bY hc h=>hc _ _ h
 |bool=>exact fun x c bY hc h=>hc _ _ h
 |str=>exact fun x c bY hc h=>hc _ _ h
 |aW=>exact fun x c bY hc h=>hc _ _ h
 |dg=>exact fun x c bY hc h=>hc _ _ h
 |fn=>exact fun x c bY hc h=>hc _ _ h
 |sl u aY=>
  rintro x c bY hc ⟨A,cap,aC,aa,af,aA⟩
  refine⟨A,cap,hc _ _ aC,aa,af,fun aB=>?_⟩
  obtain⟨b,o,hA,bC,hx⟩:=aA aB
  exact⟨b,o,hA,(he b bC).1,fun i y aF=>aY _ _ _ (fun j v hv=>JV (he b bC).2 hv) (hx i y aF)⟩
 |pr u v od oe=>exact fun x c bY hc h=>⟨od _ _ _ hc h.1,oe _ _ _ (fun j v hv=>hc _ _ hv) h.2⟩
 |arr n u aY=>exact fun x c bY hc h=>⟨h.1,fun i y aF=>aY _ _ _ (fun j v hv=>hc _ _ hv) (h.2 i y aF)⟩
theorem Den.mono (he:Ext I w I' w'): ∀(x:D) (v:Value),Den I w x v→Den I' w' x v
 | .int _ _,_,h=>h
 | .lit _,_,h=>h
 | .bool _,_,h=>h
 | .str _,_,h=>h
 | .aW _,_,h=>h
 | .dg _,_,h=>h
 | .fn _,_,h=>h
 | .cW u xs,v,h=>cg.mono he (.sl u) xs (fun _=>some v) (fun _=>some v) (fun _ _ h=>h) h
theorem EW {j n s:Nat} (h:j < n*s):j/s < n∧j % s < s∧j/s*s+j % s=j:=by
 have hs:0 < s:=by
  rcases Nat.eq_zero_or_pos s with aC |aC
  ·subst aC;simp at h
  ·exact aC
 exact⟨(Nat.div_lt_iff_lt_mul hs).2 h,Nat.mod_lt _ hs,by rw[Nat.mul_comm];exact Nat.div_add_mod j s⟩
theorem cg.cell: ∀(u:U) (x:aJ u) (c:Nat→Option Value) (j:Nat),cg I w u x c→j < aM u→ ∃v,c j=some v∧Den I w (eW u x j) v:=by
 intro u
 induction u with
 |int k=>exact fun x c j h ak=>⟨_,(by
       have:j=0:=by simp[aM] at ak;exact ak
       subst this;exact h),rfl⟩
 |u8=>exact fun x c j h ak=>⟨_,(by
    have:j=0:=by simp[aM] at ak;exact ak
    subst this;exact h),rfl⟩
 |bool=>exact fun x c j h ak=>⟨_,(by
      have:j=0:=by simp[aM] at ak;exact ak
      subst this;exact h),rfl⟩
 |str=>exact fun x c j h ak=>⟨_,(by
     have:j=0:=by simp[aM] at ak;exact ak
     subst this;exact h),rfl⟩
 |aW=>exact fun x c j h ak=>⟨_,(by
     have:j=0:=by simp[aM] at ak;exact ak
     subst this;exact h),rfl⟩
 |dg=>exact fun x c j h ak=>⟨_,(by
     have:j=0:=by simp[aM] at ak;exact ak
     subst this;exact h),rfl⟩
 |fn=>exact fun x c j h ak=>⟨_,(by
    have:j=0:=by simp[aM] at ak;exact ak
    subst this;exact h),rfl⟩
 |sl u _=>
  intro x c j h ak
  have:j=0:=by simp[aM] at ak;exact ak
  subst this
  obtain⟨A,cap,aC,aa⟩:=h
  exact⟨_,aC,A,cap,rfl,aa⟩
 |pr u v od oe=>
  intro x c j h ak
  simp only[aM] at ak
  unfold eW
  by_cases bH:j < aM u
  ·rw[show Nat.blt j (aM u)=true by simpa[Nat.blt_eq] using bH]
   exact od _ _ _ h.1 bH
  ·rw[show Nat.blt j (aM u)=false by rw[Bool.eq_false_iff];simpa[Nat.blt_eq] using bH]
   have:=oe _ _ (j - aM u) h.2 (by omega)
   rwa[show aM u+(j - aM u)=j by omega] at this
 |arr n u aY=>
  intro x c j h ak
  obtain⟨ai,aq,bk⟩:=EW (by simpa[aM] using ak)
  have aB:j/aM u < List.length x:=by rw[h.1];exact ai
  have bl:ff (α:=aJ u) x (j/aM u)=some (List.getD x (j/aM u) (dflt u)):=Qa (α:=aJ u) x _ _ aB
  have:=aY _ _ (j % aM u) (h.2 _ _ bl) aq
  rw[bk] at this
  exact this
theorem cg.mk: ∀(u:U) (x:aJ u) (c:Nat→Option Value),nt u x→(∀j,j < aM u→ ∃v,c j=some v∧Den I w (eW u x j) v)→cg I w u x c:=by
 intro u
 induction u with
 |int k=>intro x c _ h;obtain⟨v,aa,af⟩:=h 0 (by simp[aM]);rw[show v=_ from af] at aa;exact aa
 |u8=>intro x c _ h;obtain⟨v,aa,af⟩:=h 0 (by simp[aM]);rw[show v=_ from af] at aa;exact aa
 |bool=>intro x c _ h;obtain⟨v,aa,af⟩:=h 0 (by simp[aM]);rw[show v=_ from af] at aa;exact aa
 |str=>intro x c _ h;obtain⟨v,aa,af⟩:=h 0 (by simp[aM]);rw[show v=_ from af] at aa;exact aa
 |dg=>intro x c _ h;obtain⟨v,aa,af⟩:=h 0 (by simp[aM]);rw[show v=_ from af] at aa;exact aa
 |fn=>intro x c _ h;obtain⟨v,aa,af⟩:=h 0 (by simp[aM]);rw[show v=_ from af] at aa;exact aa
 |aW=>intro x c _ h;obtain⟨v,aa,af⟩:=h 0 (by simp[aM]);rw[show v=_ from af] at aa;exact aa
 |sl u _=>
  intro x c _ h
  obtain⟨v,aa,A,cap,af,aA⟩:=h 0 (by simp[aM])
  exact⟨A,cap,aa.trans af,aA⟩
 |pr u v od oe=>
  intro x c hw h
  refine⟨od _ _ hw.1 fun j ak=>?_,oe _ _ hw.2 fun j ak=>?_⟩
  ·obtain⟨v,aa,af⟩:=h j (by simp only[aM];omega)
   unfold eW at af
   rw[show Nat.blt j (aM u)=true by simpa[Nat.blt_eq] using ak] at af
   exact⟨v,aa,af⟩
  ·obtain⟨v',aa,af⟩:=h (aM u+j) (by simp only[aM];omega)
   unfold eW at af
   rw[show Nat.blt (aM u+j) (aM u)=false by rw[Bool.eq_false_iff];simp[Nat.blt_eq]] at af
   rw[show aM u+j - aM u=j by omega] at af
   exact⟨v',aa,af⟩
 |arr n u aY=>
  intro x c hw h
  refine⟨hw.1,fun i y aF=>aY _ _ (hw.2 y (Qc (α:=aJ u) aF)) fun j ak=>?_⟩
  have ay:i < List.length x:=z8 (α:=aJ u) aF
  have dU:i < n:=by rw[←hw.1];exact ay
  have bH:i*aM u+j < n*aM u:=by
   have:=Nat.mul_le_mul_right (aM u) dU
   rw[Nat.succ_mul] at this
   omega
  obtain⟨v,aa,af⟩:=h (i*aM u+j) bH
  unfold eW at af
  have ai:(i*aM u+j)/aM u=i:=by
   rw[Nat.mul_comm,Nat.mul_add_div (by omega),Nat.div_eq_of_lt ak,Nat.add_zero]
  have aq:(i*aM u+j) % aM u=j:=by
   rw[Nat.mul_comm,Nat.mul_add_mod,Nat.mod_eq_of_lt ak]
  rw[ai,aq] at af
  rw[show List.getD x i (dflt u)=y from Qb (α:=aJ u) _ aF] at af
  exact⟨v,aa,af⟩
end
structure bn where
 bO:Nat
 A:Option Addr
 n:Nat
 cap:Nat
def bn.hdr (p:bn):Value:=.slice p.A p.n p.cap
inductive ki where
 |p (c off:Nat)
 |d (x:D)
inductive bx where
 |d (x:D)
 |ptr (c off:Nat)
 |own (c:Nat)
 |el (u:U) (x:aJ u) (off:Nat)
 |fh (c s i off:Nat)
 |os (c s off n:Nat)
 |mp (c:Nat)
 |eH (f:FuncId) (l:List ki)
 |ee
 |raw (v:Value)
 |any
inductive dG where
 |one (s:bx)
 |agg (l:List bx)
 |jx (u:U) (x:aJ u)
inductive aN where
 |c (x:dG)
 |c8 (l:List dG)
 |undef
structure bK where
 R:(Nat→Prop)→(Nat→Prop)→World→bn→Prop
 cA: ∀(I F:Nat→Prop) (w:World) (I':Nat→Prop) (w':World) (p:bn),R I F w p→Ext I w I' w'→(∀b,F b→w'.heap[b]? =w.heap[b]?)→w.heap.size≤w'.heap.size→R I' F w' p
inductive bF where
 |cells (l:List bx)
 |row (e:TypeId) (u:U) (xs:List (aJ u))
 |map (aO aV:U) (es:List (aJ aO×aJ aV))
 |val (u:U) (x:aJ u)
 |obj (o:bK)
 |dep (d:Nat) (o:bn→bK)
def wo (ρ:Nat→bn) (I:Nat→Prop) (w:World):ki→Value→Prop
 | .p c off,v=>v= .pointer (some ⟨(ρ c).bO,off,none⟩)
 | .d x,v=>Den I w x v
def gS (ρ:Nat→bn) (I:Nat→Prop) (w:World):List ki→List Value→Prop
 | [],vs=>vs=[]
 |s::l,vs=> ∃v r,vs=v::r∧wo ρ I w s v∧gS ρ I w l r
def dI (ρ:Nat→bn) (I:Nat→Prop) (w:World):bx→Value→Prop
 | .d x,v=>Den I w x v
 | .ptr c off,v=>v= .pointer (some ⟨(ρ c).bO,off,none⟩)
 | .own c,v=>v=(ρ c).hdr
 | .el u x off,v=> ∃b o,v= .pointer (some ⟨b,o+off,none⟩)∧I b∧cg I w u x (fun j=>w.cell? ⟨b,o+j,none⟩)
 | .fh c s i off,v=>v= .pointer (some ⟨(ρ c).bO,i*s+off,none⟩)
 | .os c s off n,v=>v= .slice (if(ρ c).cap=off then(ρ c).A else(ρ c).A.map (·.add (off*s))) n ((ρ c).cap - off)
 | .mp c,v=>v= .map (some (ρ c).bO)
 | .eH f l,v=> ∃vs,v= .func (.func f) #[] (List.toArray vs)∧gS ρ I w l vs
 | .ee,v=>v= .slice none 0 0
 | .raw u,v=>v=u
 | .any,_=>True
def bZ (ρ:Nat→bn) (I:Nat→Prop) (w:World):List bx→List Value→Prop
 | [],vs=>vs=[]
 |s::l,vs=> ∃v r,vs=v::r∧dI ρ I w s v∧bZ ρ I w l r
def fS (ρ:Nat→bn) (I:Nat→Prop) (w:World):dG→Value→Prop
 | .one s,v=>dI ρ I w s v
 | .agg l,v=> ∃vs,v= .agg (List.toArray vs)∧bZ ρ I w l vs
 | .jx u x,v=> ∃vs,v= .agg (List.toArray vs)∧vs.length=aM u∧cg I w u x (fun j=>vs[j]?)
def iD (ρ:Nat→bn) (I:Nat→Prop) (w:World):List dG→List Value→Prop
 | [],vs=>vs=[]
 |s::l,vs=> ∃v r,vs=v::r∧fS ρ I w s v∧iD ρ I w l r
def cj (ρ:Nat→bn) (I:Nat→Prop) (w:World):aN→Value→Prop
 | .c x,v=>fS ρ I w x v
 | .c8 l,v=> ∃vs,v= .tuple (List.toArray vs)∧iD ρ I w l vs
 | .undef,v=>v=Go.undef
def iE:(u:U)→aJ u→Value
 | .int k,n=>.int k n
 | .str,s=>.string ⟨List.toArray s⟩
 |_,_=>.nilFunc
def mQ:U→Bool
 | .pr _ _=>false
 | .arr _ _=>false
 |_=>true
def kS (I:Nat→Prop) (w:World) (u:U) (x:aJ u) (v:Value):Prop:=v.cells.size=aM u∧((mQ u=true→v.cells= #[v])∧(mQ u=false→ ∃cs,v= .agg cs))∧cg I w u x (fun j=>v.cells.toList[j]?)
def kj (I:Nat→Prop) (w:World) (aO aV:U):List (aJ aO×aJ aV)→List MapEntry→Prop
 | [],es=>es=[]
 |p::l,es=> ∃e r,es=e::r∧e.key=iE aO p.1∧kS I w aV p.2 e.val∧kj I w aO aV l r
def pK (es:List MapEntry) (clock:Nat):Prop:=(es.map (·.born)).Pairwise (· < ·)∧ ∀e,e∈es→e.born < clock
def gA (I:Nat→Prop) (w:World) (u:U) (xs:List (aJ u)) (cs:List Value):Prop:= ∀i x,xs[i]? =some x→cg I w u x (fun j=>cs[i*aM u+j]?)
def Holds (ρ:Nat→bn) (I F:Nat→Prop) (w:World) (p:bn):bF→Prop
 | .cells l=>(∀b,F b↔b=p.bO)∧ ∃vs T,w.heap[p.bO]? =some (.cells (List.toArray vs) T (0,0))∧bZ ρ I w l vs
 | .row e u xs=>(∀b,F b↔p.hdr.ownBlock=some b)∧(∀b,p.hdr.ownBlock=some b→b=p.bO)∧ ∃cs,w.ownsRow 0 e (aM u) p.hdr xs.length cs∧gA I w u xs cs
 | .map aO aV es=>(∀b,F b↔b=p.bO)∧ ∃dM clock,w.heap[p.bO]? =some (.map (List.toArray dM) clock)∧kj I w aO aV es dM∧pK dM clock
 | .val u x=>(∀b,F b↔b=p.bO)∧ ∃vs T,w.heap[p.bO]? =some (.cells (List.toArray vs) T (0,0))∧vs.length=aM u∧cg I w u x (fun j=>vs[j]?)
 | .obj o=>o.R I F w p
 | .dep d o=>(o (ρ d)).R I F w p
def lu (c:Nat):List ki→Bool
 | []=>false
 | .p b _::l=>Nat.beq b c||lu c l
 | .d _::l=>lu c l
def bx.has (c:Nat):bx→Bool
 | .ptr b _=>Nat.beq b c
 | .own b=>Nat.beq b c
 | .fh b _ _ _=>Nat.beq b c
 | .os b _ _ _=>Nat.beq b c
 | .mp b=>Nat.beq b c
 | .eH _ l=>lu c l
 |_=>false
def mR (c:Nat):List bx→Bool
 | []=>false
 |s::l=>s.has c||mR c l
def dG.has (c:Nat):dG→Bool
 | .one s=>s.has c
 | .agg l=>mR c l
 | .jx _ _=>false
def sj (c:Nat):List dG→Bool
 | []=>false
 |s::l=>s.has c||sj c l
def aN.has (c:Nat):aN→Bool
 | .c x=>x.has c
 | .c8 l=>sj c l
 | .undef=>false
def bF.has (c:Nat):bF→Bool
 | .cells l=>mR c l
 | .dep d _=>Nat.beq d c
 |_=>false
section
variable {ρ ρ':Nat→bn} {I I':Nat→Prop} {w w':World}
theorem gS.mono (he:Ext I w I' w'): ∀(l:List ki) (vs:List Value),(∀c,lu c l=true→ρ' c=ρ c)→gS ρ I w l vs→gS ρ' I' w' l vs
 | [],_,_,h=>h
 | .p b o::l,_,di,⟨v,r,e,aa,af⟩=>⟨v,r,e,(by have e:=di b (by simp[lu]);simp only[wo] at*;rw[e];exact aa),gS.mono he l r (fun c hc=>di c (by simp[lu,hc])) af⟩
 | .d x::l,_,di,⟨v,r,e,aa,af⟩=>⟨v,r,e,Den.mono he x v aa,gS.mono he l r (fun c hc=>di c (by simpa[lu] using hc)) af⟩
theorem dI.mono (he:Ext I w I' w') (s:bx) (v:Value) (di: ∀c,s.has c=true→ρ' c=ρ c) (h:dI ρ I w s v):dI ρ' I' w' s v:=by
 cases s with
 |d x=>exact Den.mono he x v h
 |ptr c off=>
  have e:=di c (by simp[bx.has,Nat.beq_eq])
  simp only[dI] at*
  rw[e]
  exact h
 |own c=>
  have e:=di c (by simp[bx.has,Nat.beq_eq])
  simp only[dI] at*
  rw[e]
  exact h
 |el u x off=>
  obtain⟨b,o,aa,af,aA⟩:=h
  exact⟨b,o,aa,(he b af).1,cg.mono he u x _ _ (fun j v hv=>JV (he b af).2 hv) aA⟩
 |fh c s i off=>
  have e:=di c (by simp[bx.has,Nat.beq_eq])
  simp only[dI] at*
  rw[e]
  exact h
 |os c s off n=>
  have e:=di c (by simp[bx.has,Nat.beq_eq])
  simp only[dI] at*
  rw[e]
  exact h
 |mp c=>
  have e:=di c (by simp[bx.has,Nat.beq_eq])
  simp only[dI] at*
  rw[e]
  exact h
 |eH f l=>obtain⟨vs,e,h⟩:=h;exact⟨vs,e,gS.mono he l vs di h⟩
 |ee=>exact h
 |raw u=>exact h
 |any=>trivial
theorem bZ.mono (he:Ext I w I' w'): ∀(l:List bx) (vs:List Value),(∀c,mR c l=true→ρ' c=ρ c)→bZ ρ I w l vs→bZ ρ' I' w' l vs
 | [],_,_,h=>h
 |s::l,_,di,⟨v,r,e,aa,af⟩=>⟨v,r,e,dI.mono he s v (fun c hc=>di c (by simp[mR,hc])) aa,bZ.mono he l r (fun c hc=>di c (by simp[mR,hc])) af⟩
theorem fS.mono (he:Ext I w I' w') (s:dG) (v:Value) (di: ∀c,s.has c=true→ρ' c=ρ c) (h:fS ρ I w s v):fS ρ' I' w' s v:=by
 cases s with
 |one s=>exact dI.mono he s v di h
 |agg l=>obtain⟨vs,e,h⟩:=h;exact⟨vs,e,bZ.mono he l vs di h⟩
 |jx u x=>obtain⟨vs,e,aa,af⟩:=h;exact⟨vs,e,aa,cg.mono he u x _ _ (fun _ _ h=>h) af⟩
theorem iD.mono (he:Ext I w I' w'): ∀(l:List dG) (vs:List Value),(∀c,sj c l=true→ρ' c=ρ c)→iD ρ I w l vs→iD ρ' I' w' l vs
 | [],_,_,h=>h
 |s::l,_,di,⟨v,r,e,aa,af⟩=>⟨v,r,e,fS.mono he s v (fun c hc=>di c (by simp[sj,hc])) aa,iD.mono he l r (fun c hc=>di c (by simp[sj,hc])) af⟩
theorem cj.mono (he:Ext I w I' w') (s:aN) (v:Value) (di: ∀c,s.has c=true→ρ' c=ρ c) (h:cj ρ I w s v):cj ρ' I' w' s v:=by
 cases s with
 |c s=>exact fS.mono he s v di h
 |c8 l=>obtain⟨vs,e,h⟩:=h;exact⟨vs,e,iD.mono he l vs di h⟩
 |undef=>exact h
theorem gA.mono (he:Ext I w I' w') {u:U} {xs:List (aJ u)} {cs:List Value} (h:gA I w u xs cs):gA I' w' u xs cs:=fun i x hx=>cg.mono he u x _ _ (fun _ _ h=>h) (h i x hx)
theorem kS.mono (he:Ext I w I' w') {u:U} {x:aJ u} {v:Value} (h:kS I w u x v):kS I' w' u x v:=⟨h.1,h.2.1,cg.mono he u x _ _ (fun _ _ h=>h) h.2.2⟩
theorem kj.mono (he:Ext I w I' w') {aO aV:U}: ∀{l:List (aJ aO×aJ aV)} {es:List MapEntry},kj I w aO aV l es→kj I' w' aO aV l es
 | [],_,h=>h
 |_::_,_,⟨e,r,aC,aa,af,aA⟩=>⟨e,r,aC,aa,af.mono he,aA.mono he⟩
theorem Qd {e s n:Nat} {v:Value} {cs:List Value} (h:w.ownsRow 0 e s v n cs) (ag: ∀b,v.ownBlock=some b→w'.heap[b]? =w.heap[b]?):w'.ownsRow 0 e s v n cs:=by
 refine⟨h.1,?_⟩
 rcases h.2 with h |⟨g,cap,cur,hv,aC,bl,r⟩
 ·exact .inl h
 ·exact .inr ⟨g,cap,cur,hv,aC,(ag g (by rw[hv];rfl)).trans bl,r⟩
theorem Holds.cA (he:Ext I w I' w') {F:Nat→Prop} (hF: ∀b,F b→w'.heap[b]? =w.heap[b]?) (aS:w.heap.size≤w'.heap.size) {p:bn}: ∀(ch:bF),(∀c,ch.has c=true→ρ' c=ρ c)→Holds ρ I F w p ch→Holds ρ' I' F w' p ch
 | .cells l,di,⟨aa,vs,T,af,aA⟩=>⟨aa,vs,T,(hF _ ((aa _).2 rfl)).trans af,bZ.mono he l vs di aA⟩
 | .row e u xs,_,⟨aa,af,cs,aA,bE⟩=>⟨aa,af,cs,Qd aA fun b ag=>hF b ((aa b).2 ag),bE.mono he⟩
 | .map aO aV es,_,⟨aa,dM,clock,af,aA,bE⟩=>⟨aa,dM,clock,(hF _ ((aa _).2 rfl)).trans af,aA.mono he,bE⟩
 | .val u x,_,⟨aa,vs,T,af,aA,bE⟩=>⟨aa,vs,T,(hF _ ((aa _).2 rfl)).trans af,aA,cg.mono he u x _ _ (fun _ _ h=>h) bE⟩
 | .obj o,_,h=>o.cA _ _ _ _ _ _ h he hF aS
 | .dep d o,di,h=>by
  have e:=di d (by simp[bF.has])
  simp only[Holds] at*
  rw[e]
  exact(o (ρ d)).cA _ _ _ _ _ _ h he hF aS
end
end Go.Proofs.YteoamepgonpdlaaGreat
set_option linter.unusedVariables false
set_option linter.unusedSimpArgs false
namespace Go.Proofs.YteoamepgonpdlaaGreat
open Go.RowKit
abbrev aQ:=List (Nat×aN)
abbrev aG:=List (Nat×bF)
def look:aQ→Nat→aN
 | [],_=>.c (.one .any)
 |(t,v)::K,s=>match Nat.beq t s with
  |true=>v
  |false=>look K s
def ax:aG→Nat→Option bF
 | [],_=>none
 |(t,v)::B,s=>match Nat.beq t s with
  |true=>some v
  |false=>ax B s
def g8:aG→Nat→aG
 | [],_=>[]
 |(t,v)::B,s=>match Nat.beq t s with
  |true=>g8 B s
  |false=>(t,v)::g8 B s
theorem jR (B:aG) (c d:Nat):ax (g8 B c) d=if c=d then none else ax B d:=by
 induction B with
 |nil=>simp[g8,ax]
 |cons x B aY=>
  obtain⟨t,v⟩:=x
  unfold g8
  by_cases h:Nat.beq t c=true
  ·have e:=Nat.eq_of_beq_eq_true h
   subst e
   rw[h]
   simp only[aY]
   split
   ·rfl
   ·rename_i bf
    simp only[ax]
    rw[show Nat.beq t d=false by rw[Bool.eq_false_iff];intro h;exact bf (Nat.eq_of_beq_eq_true h)]
  ·rw[Bool.not_eq_true] at h
   rw[h]
   simp only[ax]
   by_cases af:Nat.beq t d=true
   ·have e:=Nat.eq_of_beq_eq_true af
    subst e
    rw[if_neg (fun e=>by subst e;simp at h)]
    rw[af]
   ·rw[Bool.not_eq_true] at af
    rw[af]
    simpa using aY
theorem cC (B:aG) (c:Nat) (ch:bF) (d:Nat):ax ((c,ch)::B) d=if c=d then some ch else ax B d:=by
 simp only[ax]
 by_cases h:c=d
 ·subst h;simp
 ·rw[if_neg h,show Nat.beq c d=false by rw[Bool.eq_false_iff];intro e;exact h (Nat.eq_of_beq_eq_true e)]
theorem kF (K:aQ) (c:Nat) (v:aN) (d:Nat):look ((c,v)::K) d=if c=d then v else look K d:=by
 rw[look.eq_def]
 by_cases h:c=d
 ·subst h;simp
 ·simp only[if_neg h,show Nat.beq c d=false by rw[Bool.eq_false_iff];intro e;exact h (Nat.eq_of_beq_eq_true e)]
def At (a:Act) (s:Nat) (v:Value):Prop:=a.tmps.getD s undef=v
theorem At.eval {a:Act} {s:Nat} {v:Value} (h:At a s v):a.eval (.tmp s)=v:=h
theorem JW {a:Act} {d:Nat} {v:Value} (h:d < a.tmps.size):At (a.put (some d) v) d v:=by simp[At,Act.put,h]
theorem Qe {a:Act} {d s:Nat} {v:Value} (h:d≠s):a.tmps.getD s undef=(a.put (some d) v).tmps.getD s undef:=by
 simp[Act.put,Array.getElem?_setIfInBounds_ne h]
theorem lz {a:Act} {d:Option Nat} {v:Value}:(a.put d v).tmps.size=a.tmps.size:=by cases d <;>simp[Act.put]
theorem put_defers {a:Act} {d:Option Nat} {v:Value}:(a.put d v).defers=a.defers:=by cases d <;>simp[Act.put]
structure Ctx where
 w0:World
 x9:Nat→Prop
 pL:Nat→Prop
 lY:Nat→bn
 ds:List Nat
def wq (D:Nat):Deferred:={target:=.collected D,args:= #[]}
def bS (C:Ctx) (B:aG) (F:Nat→Nat→Prop) (w:World):Nat→Prop:=fun b=>
 b < w.heap.size∧(C.x9 b∨C.pL b∨C.w0.heap.size≤b∧b∉C.ds)∧ ∀c ch,ax B c=some ch→ ¬F c b
structure Mem (ids:List Nat) (C:Ctx) (B:aG) (ρ:Nat→bn) (F:Nat→Nat→Prop) (w:World):Prop where
 ja:Fr C.pL C.w0 w
 holds: ∀c ch,ax B c=some ch→Holds ρ (bS C B F w) (F c) w (ρ c) ch
 own: ∀c ch,ax B c=some ch→ ∀b,F c b→b < w.heap.size∧(C.pL b∨C.w0.heap.size≤b∧b∉C.ds)
 e4: ∀c bY ch bg b,ax B c=some ch→ax B bY=some bg→c≠bY→F c b→ ¬F bY b
 keep: ∀c,c∈ids→ρ c=C.lY c
 marks:C.ds.Nodup∧(∀b,C.x9 b∨C.pL b→b < C.w0.heap.size)∧ ∀D,D∈C.ds→D < w.heap.size∧w.heap[D]? =some (.deferred (some []))∧C.w0.heap.size≤D
def ei (K:aQ) (ρ:Nat→bn) (I:Nat→Prop) (a:Act) (w:World):Prop:= ∀s,cj ρ I w (look K s) (a.tmps.getD s undef)
def Sat (N:Nat) (ids:List Nat) (C:Ctx) (K:aQ) (B:aG) (a:Act) (w:World):Prop:=
 a.tmps.size=N∧a.defers=C.ds.map wq∧ ∃ρ F,Mem ids C B ρ F w∧ei K ρ (bS C B F w) a w
theorem Mem.fresh {ids:List Nat} {C:Ctx} {B:aG} {ρ:Nat→bn} {F:Nat→Nat→Prop} {w:World} (h:Mem ids C B ρ F w) {b:Nat} (ag:w.heap.size≤b):C.w0.heap.size≤b∧b∉C.ds:=
 ⟨Nat.le_trans h.ja.size ag,fun hd=>by have:=(h.marks.2.2 b hd).1;omega⟩
theorem Mem.step {ids:List Nat} {C:Ctx} {B B':aG} {ρ ρ':Nat→bn} {F F':Nat→Nat→Prop} {w w':World} (h:Mem ids C B ρ F w) (M Cg:Nat→Prop)
  (cv:Fr (fun b=> ∃c ch,ax B c=some ch∧M c∧F c b) w w')
  (qp: ∀c ch,ax B' c=some ch→ ¬M c→ax B c=some ch)
  (di: ∀c,¬Cg c→ρ' c=ρ c) (hF: ∀c,¬M c→F' c=F c) (EX: ∀c,c∈ids→ ¬Cg c)
  (pM: ∀c,Cg c→M c)
  (named: ∀c ch,ax B c=some ch→ ¬M c→ ∀d,ch.has d=true→ ¬Cg d)
  (new: ∀c ch,ax B' c=some ch→M c→Ext (bS C B F w) w (bS C B' F' w') w'→Holds ρ' (bS C B' F' w') (F' c) w' (ρ' c) ch)
  (Ch: ∀c ch,ax B' c=some ch→M c→ ∀b,F' c b→b < w'.heap.size∧((∃cy cr,ax B cy=some cr∧M cy∧F cy b)∨w.heap.size≤b))
  (Qf: ∀c bY ch bg b,ax B' c=some ch→ax B' bY=some bg→M c→M bY→c≠bY→F' c b→ ¬F' bY b):
  Mem ids C B' ρ' F' w'∧Ext (bS C B F w) w (bS C B' F' w') w':=by
 have aS:=h.ja.size
 have EY:Ext (bS C B F w) w (bS C B' F' w') w':=by
  rintro b ⟨aa,af,aA⟩
  refine⟨⟨Nat.lt_of_lt_of_le aa cv.size,af,fun c ch hc=>?_⟩,cv.block b aa ?_⟩
  ·by_cases az:M c
   ·intro ag
    obtain⟨_,dm⟩:=Ch c ch hc az b ag
    rcases dm with⟨cy,cr,ai,_,aq⟩ |dm
    ·exact aA cy cr ai aq
    ·omega
   ·rw[hF c az]
    exact aA c ch (qp c ch hc az)
  ·rintro⟨c,ch,ai,_,aq⟩
   exact aA c ch ai aq
 have Qg: ∀c ch,ax B c=some ch→ ¬M c→ ∀b,F c b→w'.heap[b]? =w.heap[b]? :=fun c ch hc az b ag=>
  cv.block b (h.own c ch hc b ag).1 (by
   rintro⟨cy,cr,ai,aq,bk⟩
   exact h.e4 c cy ch cr b hc ai (fun e=>az (e▸aq)) ag bk)
 refine⟨⟨?_,?_,?_,?_,?_,?_⟩,EY⟩
 ·refine h.ja.trans cv ?_
  rintro b ag ⟨c,ch,ai,_,aq⟩
  rcases(h.own c ch ai b aq).2 with h' |h'
  ·exact h'
  ·have:=h'.1;omega
 ·intro c ch hc
  by_cases az:M c
  ·exact new c ch hc az EY
  ·have av:=qp c ch hc az
   rw[hF c az,di c (fun hn=>az (pM c hn))]
   exact Holds.cA EY (Qg c ch av az) cv.size ch (fun d hd=>di d (named c ch av az d hd)) (h.holds c ch av)
 ·intro c ch hc b ag
  by_cases az:M c
  ·obtain⟨aa,af⟩:=Ch c ch hc az b ag
   refine⟨aa,?_⟩
   rcases af with⟨cy,cr,ai,_,aq⟩ |af
   ·exact(h.own cy cr ai b aq).2
   ·exact .inr (h.fresh af)
  ·rw[hF c az] at ag
   obtain⟨aa,af⟩:=h.own c ch (qp c ch hc az) b ag
   exact⟨Nat.lt_of_lt_of_le aa cv.size,af⟩
 ·intro c bY ch bg b hc dw bf ag dm
  by_cases az:M c
  ·by_cases bT:M bY
   ·exact Qf c bY ch bg b hc dw az bT bf ag dm
   ·rw[hF bY bT] at dm
    have qq:=qp bY bg dw bT
    rcases(Ch c ch hc az b ag).2 with⟨cy,cr,ai,bk,aq⟩ |af
    ·exact h.e4 cy bY cr bg b ai qq (fun e=>bT (e▸bk)) aq dm
    ·have:=(h.own bY bg qq b dm).1;omega
  ·rw[hF c az] at ag
   have av:=qp c ch hc az
   by_cases bT:M bY
   ·rcases(Ch bY bg dw bT b dm).2 with⟨cy,cr,ai,bk,aq⟩ |af
    ·exact h.e4 cy c cr ch b ai av (fun e=>az (e▸bk)) aq ag
    ·have:=(h.own c ch av b ag).1;omega
   ·rw[hF bY bT] at dm
    exact h.e4 c bY ch bg b av (qp bY bg dw bT) bf ag dm
 ·intro c hc
  rw[di c (EX c hc)]
  exact h.keep c hc
 ·refine⟨h.marks.1,h.marks.2.1,fun D bW=>?_⟩
  obtain⟨g1,g2,bL⟩:=h.marks.2.2 D bW
  refine⟨Nat.lt_of_lt_of_le g1 cv.size,(cv.block D g1 ?_).trans g2,bL⟩
  rintro⟨c,ch,ai,_,aq⟩
  rcases(h.own c ch ai D aq).2 with h' |h'
  ·have:=h.marks.2.1 D (.inr h');omega
  ·exact h'.2 bW
theorem Mem.below {ids:List Nat} {C:Ctx} {B:aG} {ρ:Nat→bn} {F:Nat→Nat→Prop} {w w':World} (h:Mem ids C B ρ F w) (ag:Below w.heap.size w w'):
  Mem ids C B ρ F w'∧Ext (bS C B F w) w (bS C B F w') w':=
 h.step (fun _=>False) (fun _=>False) (Fr.q2 ag) (fun _ _ h _=>h) (fun _ _=>rfl) (fun _ _=>rfl) (fun _ _ h=>h) (fun _ h=>h) (fun _ _ _ _ _ _ h=>h) (fun _ _ _ h=>h.elim) (fun _ _ _ h=>h.elim) (fun _ _ _ _ _ _ _ h=>h.elim)
theorem ei.mono {K:aQ} {ρ ρ':Nat→bn} {I I':Nat→Prop} {a:Act} {w w':World} (h:ei K ρ I a w) (he:Ext I w I' w') (di: ∀s c,(look K s).has c=true→ρ' c=ρ c):ei K ρ' I' a w':=
 fun s=>cj.mono he _ _ (di s) (h s)
theorem ei.put {K:aQ} {ρ:Nat→bn} {I:Nat→Prop} {a:Act} {w:World} (h:ei K ρ I a w) {d:Nat} {v:aN} {x:Value} (hd:d < a.tmps.size) (hv:cj ρ I w v x):ei ((d,v)::K) ρ I (a.put (some d) x) w:=fun s=>by
 rw[kF]
 by_cases e:d=s
 ·subst e
  rw[if_pos rfl,show(a.put (some d) x).tmps.getD d undef=x from JW hd]
  exact hv
 ·rw[if_neg e,←Qe e]
  exact h s
def lZ (d:Option Nat) (v:aN) (K:aQ):aQ:=match d with
 |some d=>(d,v)::K
 |none=>K
theorem ei.lB {K:aQ} {ρ:Nat→bn} {I:Nat→Prop} {a:Act} {w:World} (h:ei K ρ I a w) {d:Option Nat} {v:aN} {x:Value} (hd: ∀e,d=some e→e < a.tmps.size) (hv:cj ρ I w v x):ei (lZ d v K) ρ I (a.put d x) w:=by
 cases d with
 |none=>exact h
 |some d=>exact h.put (hd d rfl) hv
def uP:Value→bx
 | .int k n=>.d (.int k n)
 | .bool b=>.d (.lit b)
 | .string s=>.d (.str s.data.toList)
 | .slice none 0 0=>.ee
 |v=>.raw v
theorem JX (ρ:Nat→bn) (I:Nat→Prop) (w:World) (v:Value):dI ρ I w (uP v) v:=by
 unfold uP
 split <;>simp[dI,Den]
def Ci:Value→aN
 | .agg cs=>.c (.agg (cs.toList.map uP))
 |v=>.c (.one (uP v))
theorem JY (ρ:Nat→bn) (I:Nat→Prop) (w:World): ∀vs:List Value,bZ ρ I w (vs.map uP) vs
 | []=>rfl
 |v::vs=>⟨v,vs,rfl,JX ρ I w v,JY ρ I w vs⟩
theorem Qh (ρ:Nat→bn) (I:Nat→Prop) (w:World) (v:Value):cj ρ I w (Ci v) v:=by
 unfold Ci
 split
 ·rename_i cs
  exact⟨cs.toList,by simp,JY ρ I w _⟩
 ·exact JX ρ I w v
def aU (K:aQ):Operand→aN
 | .tmp t=>look K t
 | .const v=>Ci v
 | .func f=>.c (.one (.eH f []))
 | .global g=>.c (.one (.raw (.pointer (some ⟨g,0,none⟩))))
theorem ei.get {K:aQ} {ρ:Nat→bn} {I:Nat→Prop} {a:Act} {w:World} (h:ei K ρ I a w) (x:Operand):cj ρ I w (aU K x) (a.eval x):=by
 cases x with
 |tmp t=>exact h t
 |const v=>exact Qh ρ I w v
 |func f=>exact⟨[],rfl,rfl⟩
 |global g=>rfl
end Go.Proofs.YteoamepgonpdlaaGreat
namespace Go.Proofs.YteoamepgonpdlaaGreat
set_option linter.unusedVariables false
set_option linter.unusedSimpArgs false
open Go.RowKit
def Cj (a b:Int):Bool:=decide (a=b)
def Ck (a b:List UInt8):Bool:=decide (a=b)
def jS:(u:U)→aJ u→aJ u→Bool
 | .int _,a,b=>Cj a b
 | .str,a,b=>Ck a b
 |_,_,_=>false
def cz {aO aV:U}:List (aJ aO×aJ aV)→aJ aO→Option (aJ aV)
 | [],_=>none
 |p::l,k=>match jS aO k p.1 with
  |true=>some p.2
  |false=>cz l k
def gI {aO aV:U}:List (aJ aO×aJ aV)→aJ aO→aJ aV→List (aJ aO×aJ aV)
 | [],k,x=>[(k,x)]
 |p::l,k,x=>match jS aO k p.1 with
  |true=>(k,x)::l
  |false=>p::gI l k x
def jT {aO aV:U}:List (aJ aO×aJ aV)→aJ aO→List (aJ aO×aJ aV)
 | [],_=>[]
 |p::l,k=>match jS aO k p.1 with
  |true=>l
  |false=>p::jT l k
def nv:U→TypeDesc→Bool
 | .int k,.int k'=>k == k'
 | .str,.string=>true
 |_,_=>false
section
variable {P:Program} {I:Nat→Prop} {w:World} {aO aV:U}
theorem Aa {d:TypeDesc} (hd:nv aO d=true) (a:aJ aO):MapKept.IsKey d (iE aO a):=by
 cases aO <;>cases d <;>simp[nv] at hd
 ·subst hd;simp[iE,MapKept.IsKey]
 ·simp[iE,MapKept.IsKey]
theorem EZ {d:TypeDesc} (hd:nv aO d=true) (a b:aJ aO):iE aO a=iE aO b↔jS aO a b=true:=by
 cases aO <;>cases d <;>simp[nv] at hd
 ·have: ∀(k:IntKind) (a b:Int),Value.int k a=Value.int k b↔Cj a b=true:=fun k a b=>by simp[Cj]
  exact this _ a b
 ·have: ∀(a b:List UInt8),Value.string ⟨List.toArray a⟩=Value.string ⟨List.toArray b⟩↔Ck a b=true:=fun a b=>by simp[Ck]
  exact this a b
theorem E0: ∀{l:List (aJ aO×aJ aV)} {es:List MapEntry},kj I w aO aV l es→es.length=l.length
 | [],_,h=>by rw[show _=[] from h];rfl
 |p::l,_,⟨e,r,h,_,_,aA⟩=>by rw[h,List.length_cons,List.length_cons,E0 aA]
theorem Cl {d:TypeDesc} (hd:nv aO d=true) (k:aJ aO): ∀(l:List (aJ aO×aJ aV)) (es:List MapEntry) (i:Nat),kj I w aO aV l es→
  (Instr.findNow d (iE aO k) es i=some none∧cz l k=none∧(∀x,gI l k x=l++[(k,x)])∧jT l k=l)∨
  ∃(j:Nat) (x:aJ aV) (e:MapEntry),Instr.findNow d (iE aO k) es i=some (some (i+j,e.val))∧cz l k=some x∧es[j]? =some e∧e.key=iE aO k∧kS I w aV x e.val∧(∀y,gI l k y=l.set j (k,y))∧jT l k=l.eraseIdx j
 | [],_,i,h=>by
  rw[show _=[] from h]
  exact .inl ⟨rfl,rfl,fun _=>rfl,rfl⟩
 |p::l,_,i,⟨e,r,h,aa,af,aA⟩=>by
  subst h
  obtain⟨b,ag,qs⟩:=MapKept.sameNow_of_keys (Aa hd k) (Aa hd p.1)
  rw[←aa] at ag
  cases au:jS aO k p.1 with
  |true=>
   have qt:b=true:=qs.2 ((EZ hd k p.1).2 au)
   subst qt
   refine .inr ⟨0,p.2,e,by simp[Instr.findNow,ag],by simp[cz,au],rfl,by rw[aa];exact((EZ hd k p.1).2 au).symm,af,fun y=>by simp[gI,au],by simp[jT,au]⟩
  |false=>
   have Qi:b=false:=by
    cases b with
    |false=>rfl
    |true=>have:=(EZ hd k p.1).1 (qs.1 rfl);rw[au] at this;cases this
   subst Qi
   rcases Cl hd k l r (i+1) aA with⟨ct,cB,a3,a4⟩ |⟨j,x,e',ct,cB,a3,a4,a5,gT,E1⟩
   ·exact .inl ⟨by simp[Instr.findNow,ag,ct],by simp[cz,au,cB],fun y=>by simp[gI,au,a3],by simp[jT,au,a4]⟩
   ·exact .inr ⟨j+1,x,e',by simp[Instr.findNow,ag,ct];omega,by simp[cz,au,cB],by simpa using a3,a4,a5,fun y=>by simp[gI,au,gT],by simp[jT,au,E1]⟩
theorem JZ {t kt et:TypeId} {d:TypeDesc} (cl:P.underlying t=some (.map kt et)) (au:P.underlying kt=some d) (hd:nv aO d=true) {b:Nat} {dM:List MapEntry} {clock:Nat} (ag:w.heap[b]? =some (.map (List.toArray dM) clock))
  {l:List (aJ aO×aJ aV)} (hm:kj I w aO aV l dM) {z:Value} (aS:(zeroValue et).run P w= .ok z w) (ya:kS I w aV (dflt aV) z) (k:aJ aO) (c:Bool):
  ∃v,(Instr.lookup t (.map (some b)) (iE aO k) c).run P w= .ok (if c then .tuple #[v,.bool (cz l k).isSome] else v) w∧kS I w aV ((cz l k).getD (dflt aV)) v:=by
 have hc:=fun e=>MapKept.run_checkKey (P:=P) (w:=w) au (Aa hd k) e 9999
 rcases Cl (I:=I) (w:=w) hd k l dM 0 hm with⟨ct,cB,_⟩ |⟨j,x,e,ct,cB,_,_,a5,_⟩
 ·refine⟨z,?_,by rw[cB];exact ya⟩
  have hf:=MapKept.run_findKey (P:=P) (w:=w) au ct
  rw[cB]
  simp[Instr.lookup,run_underlying cl,MapKept.run_getObj_map ag,hc,hf,aS,Result.andThen]
 ·refine⟨e.val,?_,by rw[cB];exact a5⟩
  have hf:=MapKept.run_findKey (P:=P) (w:=w) au ct
  rw[cB]
  simp[Instr.lookup,run_underlying cl,MapKept.run_getObj_map ag,hc,hf,Result.andThen]
theorem J0: ∀{l:List (aJ aO×aJ aV)} {es:List MapEntry},kj I w aO aV l es→ ∀{k:aJ aO} {x:aJ aV} {e:MapEntry},e.key=iE aO k→kS I w aV x e.val→kj I w aO aV (l++[(k,x)]) (es++[e])
 | [],_,h,k,x,e,aa,af=>by rw[show _=[] from h];exact⟨e,[],rfl,aa,af,rfl⟩
 |p::l,_,⟨e',r,h,ct,cB,a3⟩,k,x,e,aa,af=>by rw[h];exact⟨e',r++[e],rfl,ct,cB,J0 a3 aa af⟩
theorem J1: ∀{l:List (aJ aO×aJ aV)} {es:List MapEntry},kj I w aO aV l es→ ∀{k:aJ aO} {x:aJ aV} {e:MapEntry} (j:Nat),e.key=iE aO k→kS I w aV x e.val→kj I w aO aV (l.set j (k,x)) (es.set j e)
 | [],_,h,k,x,e,j,aa,af=>by rw[show _=[] from h];rfl
 |p::l,_,⟨e',r,h,ct,cB,a3⟩,k,x,e,0,aa,af=>by rw[h];exact⟨e,r,rfl,aa,af,a3⟩
 |p::l,_,⟨e',r,h,ct,cB,a3⟩,k,x,e,j+1,aa,af=>by rw[h];exact⟨e',r.set j e,rfl,ct,cB,J1 a3 j aa af⟩
theorem J2: ∀{l:List (aJ aO×aJ aV)} {es:List MapEntry},kj I w aO aV l es→ ∀(j:Nat),kj I w aO aV (l.eraseIdx j) (es.eraseIdx j)
 | [],_,h,j=>by rw[show _=[] from h];rfl
 |p::l,_,⟨e',r,h,ct,cB,a3⟩,0=>by rw[h];exact a3
 |p::l,_,⟨e',r,h,ct,cB,a3⟩,j+1=>by rw[h];exact⟨e',r.eraseIdx j,rfl,ct,cB,J2 a3 j⟩
theorem Qj {es:List MapEntry} {c:Nat} (h:pK es c) (key val:Value):pK (es++[⟨key,val,c⟩]) (c+1):=by
 refine⟨?_,fun e he=>?_⟩
 ·rw[List.map_append,List.pairwise_append]
  refine⟨h.1,by simp,fun a ha b ag=>?_⟩
  obtain⟨e,he,rfl⟩:=List.mem_map.1 ha
  simp only[List.map_cons,List.map_nil,List.mem_singleton] at ag
  subst ag
  exact h.2 e he
 ·rcases List.mem_append.1 he with he |he
  ·have:=h.2 e he;omega
  ·simp only[List.mem_singleton] at he;subst he;simp
theorem Qk {es:List MapEntry} {c:Nat} (h:pK es c) {j:Nat} {bt e:MapEntry} (ak:es[j]? =some bt) (ag:e.born=bt.born):pK (es.set j e) c:=by
 have hm:(es.set j e).map (·.born)=es.map (·.born):=by
  rw[List.map_set]
  refine List.ext_getElem? fun i=>?_
  rw[List.getElem?_set]
  split
  ·rename_i ay
   subst ay
   have:=(List.getElem?_eq_some_iff.1 ak).1
   rw[if_pos (by simpa using this),List.getElem?_map,ak,ag]
   rfl
  ·rfl
 refine⟨by rw[hm];exact h.1,fun x hx=>?_⟩
 have aa:x.born∈(es.set j e).map (·.born):=List.mem_map_of_mem hx
 rw[hm] at aa
 obtain⟨y,aF,Ql⟩:=List.mem_map.1 aa
 rw[←Ql]
 exact h.2 y aF
theorem Qm {es:List MapEntry} {c:Nat} (h:pK es c) (j:Nat):pK (es.eraseIdx j) c:=
 ⟨h.1.sublist ((List.eraseIdx_sublist es j).map _),fun e he=>h.2 e ((List.eraseIdx_sublist es j).subset he)⟩
theorem Qn (a:aJ aO) {d:TypeDesc} (hd:nv aO d=true) (n:Nat):Instr.sameBits (n+1) (iE aO a) (iE aO a)=true:=by
 cases aO <;>cases d <;>simp[nv] at hd
 ·have: ∀(k:IntKind) (a:Int),Instr.sameBits (n+1) (.int k a) (.int k a)=true:=fun k a=>by simp[Instr.sameBits]
  exact this _ a
 ·simp only[iE,Instr.sameBits]
  exact(MapKept.bytes_beq _ _).2 rfl
theorem E3 {t kt et:TypeId} {d:TypeDesc} (cl:P.underlying t=some (.map kt et)) (au:P.underlying kt=some d) (hd:nv aO d=true) {b:Nat} {dM:List MapEntry} {clock:Nat} (ag:w.heap[b]? =some (.map (List.toArray dM) clock))
  {l:List (aJ aO×aJ aV)} (hm:kj I w aO aV l dM) (eA:pK dM clock) (k:aJ aO) {x:aJ aV} {v:Value} (hv:kS I w aV x v):
  ∃iF nw,(Instr.mapUpdate t (.map (some b)) (iE aO k) v).run P w= .ok () {w with heap:=w.heap.setIfInBounds b (.map (List.toArray iF) nw)}∧kj I w aO aV (gI l k x) iF∧pK iF nw:=by
 have hc:=fun e=>MapKept.run_checkKey (P:=P) (w:=w) au (Aa hd k) e 9999
 have iq:=fun o=>MapKept.run_setObj_map (P:=P) o ag
 rcases Cl (I:=I) (w:=w) hd k l dM 0 hm with⟨ct,cB,a3,_⟩ |⟨j,y,e,ct,cB,a3,a4,a5,gT,_⟩
 ·have hf:=MapKept.run_findKey (P:=P) (w:=w) au ct
  refine⟨dM++[⟨iE aO k,v,clock⟩],clock+1,?_,by rw[a3];exact J0 hm rfl hv,Qj eA _ _⟩
  simp[Instr.mapUpdate,run_underlying cl,MapKept.run_getObj_map ag,hc,hf,iq,Result.andThen]
 ·have hf:=MapKept.run_findKey (P:=P) (w:=w) au ct
  have oc:=(List.getElem?_eq_some_iff.1 a3).1
  refine⟨dM.set j ⟨iE aO k,v,e.born⟩,clock,?_,by rw[gT];exact J1 hm j rfl hv,Qk eA a3 rfl⟩
  have J3:dM.modify j (fun e'=>{e' with key:=iE aO k,val:=v})=dM.set j ⟨iE aO k,v,e.born⟩:=by
   refine List.ext_getElem? fun i=>?_
   rw[List.getElem?_modify,List.getElem?_set]
   by_cases fD:j=i
   ·subst fD
    have he:=(List.getElem?_eq_some_iff.1 a3).2
    simp[oc,he]
   ·simp[fD]
  simp[Instr.mapUpdate,run_underlying cl,MapKept.run_getObj_map ag,hc,hf,iq,Result.andThen,a3,a4,Instr.keyThatStays,Qn k hd,J3]
theorem J4 {t kt et ty:TypeId} {d:TypeDesc} (cl:P.underlying t=some (.map kt et)) (au:P.underlying kt=some d) (hd:nv aO d=true) {b:Nat} {dM:List MapEntry} {clock:Nat} (ag:w.heap[b]? =some (.map (List.toArray dM) clock))
  {l:List (aJ aO×aJ aV)} (hm:kj I w aO aV l dM) (eA:pK dM clock) (k:aJ aO) (Qo:TypeId):
  ∃iF,(Builtin.delete_ #[t,Qo] ty #[.map (some b),iE aO k]).run P w= .ok (.tuple #[]) {w with heap:=w.heap.setIfInBounds b (.map (List.toArray iF) clock)}∧kj I w aO aV (jT l k) iF∧pK iF clock:=by
 have hc:=fun e=>MapKept.run_checkKey (P:=P) (w:=w) au (Aa hd k) e 9999
 have iq:=fun o=>MapKept.run_setObj_map (P:=P) o ag
 rcases Cl (I:=I) (w:=w) hd k l dM 0 hm with⟨ct,cB,_,a3⟩ |⟨j,y,e,ct,cB,a3,a4,a5,_,gT⟩
 ·have hf:=MapKept.run_findKey (P:=P) (w:=w) au ct
  refine⟨dM,?_,by rw[a3];exact hm,eA⟩
  simp[Builtin.delete_,run_underlying cl,MapKept.run_getObj_map ag,hc,hf,iq,Result.andThen]
 ·have hf:=MapKept.run_findKey (P:=P) (w:=w) au ct
  have oc:=(List.getElem?_eq_some_iff.1 a3).1
  refine⟨dM.eraseIdx j,?_,by rw[gT];exact J2 hm j,Qm eA j⟩
  have Qp:(List.toArray dM).eraseIdxIfInBounds j=List.toArray (dM.eraseIdx j):=by
   apply Array.ext'
   unfold Array.eraseIdxIfInBounds
   rw[dif_pos (by simpa using oc)]
   simp
  simp[Builtin.delete_,run_underlying cl,MapKept.run_getObj_map ag,hc,hf,iq,Result.andThen,Qp]
theorem Qq {t:TypeId}:(Instr.makeMap t none).run P w= .ok (.map (some w.heap.size)) (w.alloc (.map #[] 0)):=by
 simp only[Instr.makeMap,Sem.run_bind,run_newObj_alloc,Result.andThen,Sem.run_pure]
end
end Go.Proofs.YteoamepgonpdlaaGreat
