/-
Part 1 of the proof that stands in YteoamepgonpdlaaGreatPbRow, with what it needs from the parts ahead; the parts of this text: Base, U, Mp.
-/
import Derived.WalkKit
import Derived.WalkSpells
import Derived.WalkLawsBesides
import Derived.BigQuiet
import Derived.Deep.QuietTactic
import Derived.Deep.RegionHeld3
import Derived.Deep.AppendLies
import Derived.Deep.DrawnRows
import Derived.Maps.AppendAt
import Derived.Laws.CopyOwn
import Derived.Lib.ConvBytes
import Derived.Lib.Hide
import Derived.RangeFuncRecord
import Derived.OrdersIn
import Derived.TacticsIn
import Derived.Sort.LoopGhostIn
import Derived.MapKept
import Derived.ChangeMaps4
/-!
  Words for memory that all proofs of this seat share: frames by block sets, slices of cells, bytes. No program in sight.
-/
namespace Go.Proofs.YteoamepgonpdlaaGreat
open Go.RowKit
/-- What stood and is not in S is as it was. -/
structure Fr (S : Nat → Prop) (w w' : World) : Prop where
 os : w'.os = w.os
 tape : w'.tape = w.tape
 output : w'.output = w.output
 size : w.heap.size ≤ w'.heap.size
 block : ∀ k,k < w.heap.size → ¬ S k → w'.heap[k]? = w.heap[k]?
theorem Fr.refl (S : Nat → Prop) (w : World) : Fr S w w:=⟨rfl,rfl,rfl,Nat.le_refl _,fun _ _ _=>rfl⟩
theorem Fr.trans {S : Nat → Prop} {a b c : World} (h : Fr S a b) {S' : Nat → Prop} (k : Fr S' b c) (hs : ∀ i,i < a.heap.size → S' i → S i) : Fr S a c :=
 ⟨k.os.trans h.os,k.tape.trans h.tape,k.output.trans h.output,Nat.le_trans h.size k.size,
   fun i hi hn=>(k.block i (Nat.lt_of_lt_of_le hi h.size) (fun x=>hn (hs i hi x))).trans (h.block i hi hn)⟩
theorem Fr.mono {S S' : Nat → Prop} {w w' : World} (h : Fr S w w') (hs : ∀ i,i < w.heap.size → S i → S' i) : Fr S' w w' :=
 ⟨h.os,h.tape,h.output,h.size,fun i hi hn=>h.block i hi (fun x=>hn (hs i hi x))⟩
theorem Fr.of_below {S : Nat → Prop} {w w' : World} (h : Below w.heap.size w w') : Fr S w w' :=
 ⟨h.os,h.tape,h.output,h.size,fun i hi _=>h.block i hi⟩
theorem Fr.below {S : Nat → Prop} {B : Nat} {w w' : World} (h : Fr S w w') (hB : B ≤ w.heap.size) (hs : ∀ i,i < B → ¬ S i) : Below B w w' :=
 ⟨h.os,h.tape,h.output,h.size,fun i hi=>h.block i (by omega) (hs i hi)⟩
theorem Fr.cell {S : Nat → Prop} {w w' : World} (h : Fr S w w') {p : Addr} {v : Value} (hp : w.cell? p = some v) (hs : ¬ S p.block) : w'.cell? p = some v :=
 (World.cell?_of_block (h.block p.block (World.block_lt_of_cell? w p hp) hs)).trans hp
theorem lt_of_heap {w : World} {b : Nat} {o : Obj} (h : w.heap[b]? = some o) : b < w.heap.size:=by
 rcases Nat.lt_or_ge b w.heap.size with hlt | hge
 · exact hlt
 · rw [Array.getElem?_eq_none hge] at h; cases h
/-- A slice value of n elements,size cells each,that reads as the cells xs,in a block of D. -/
def Sl (D : Nat → Prop) (w : World) (size : Nat) (v : Value) (n : Nat) (xs : List Value) : Prop :=
 xs.length = n * size ∧ ∃ A c,v = .slice A n c ∧ n ≤ c ∧ c ≤ maxLen ∧
   (0 < n → ∃ b o,A = some ⟨b,o,none⟩ ∧ D b ∧ b < w.heap.size ∧ ∀ j u,xs[j]? = some u → w.cell? ⟨b,o + j,none⟩ = some u)
/-- D's blocks are as they were. -/
def Keeps (D : Nat → Prop) (w w' : World) : Prop:=∀ i,i < w.heap.size → D i → w'.heap[i]? = w.heap[i]?
theorem Keeps.refl (D : Nat → Prop) (w : World) : Keeps D w w:=fun _ _ _=>rfl
theorem Keeps.cell {D : Nat → Prop} {w w' : World} (h : Keeps D w w') {p : Addr} {v : Value} (hp : w.cell? p = some v) (hs : D p.block) : w'.cell? p = some v :=
 (World.cell?_of_block (h p.block (World.block_lt_of_cell? w p hp) hs)).trans hp
theorem Keeps.of_below {D : Nat → Prop} {w w' : World} (h : Below w.heap.size w w') : Keeps D w w':=fun i hi _=>h.block i hi
theorem Sl.mono {D D' : Nat → Prop} {w w' : World} {size n : Nat} {v : Value} {xs : List Value} (h : Sl D w size v n xs) (hk : Keeps D w w') (hw : w.heap.size ≤ w'.heap.size) (hd : ∀ i,i < w.heap.size → D i → D' i) : Sl D' w' size v n xs:=by
 obtain ⟨hl,A,c,rfl,h1,h2,h3⟩:=h
 refine ⟨hl,A,c,rfl,h1,h2,fun hn=>?_⟩
 obtain ⟨b,o,rfl,hD,hb,hc⟩:=h3 hn
 exact ⟨b,o,rfl,hd b hb hD,by omega,fun j u hj=>hk.cell (hc j u hj) hD⟩
theorem Sl.nil (D : Nat → Prop) (w : World) (size : Nat) : Sl D w size (.slice none 0 0) 0 []:=⟨by simp,none,0,rfl,Nat.le_refl _,by decide,fun h=>absurd h (by omega)⟩
theorem Sl.at_ {D : Nat → Prop} {w : World} {size n : Nat} {v : Value} {xs : List Value} (h : Sl D w size v n xs) (hn : 0 < n) :
   ∃ b o c,v = .slice (some ⟨b,o,none⟩) n c ∧ n ≤ c ∧ c ≤ maxLen ∧ D b ∧ b < w.heap.size ∧ ∀ j u,xs[j]? = some u → w.cell? ⟨b,o + j,none⟩ = some u:=by
 obtain ⟨hl,A,c,rfl,h1,h2,h3⟩:=h
 obtain ⟨b,o,rfl,hD,hb,hc⟩:=h3 hn
 exact ⟨b,o,c,rfl,h1,h2,hD,hb,hc⟩
/-- A byte as a cell has it. -/
def byteV (c : UInt8) : Value:=.int .u8 c.toNat
/-- A slice of bytes. -/
def Bytes (D : Nat → Prop) (w : World) (v : Value) (l : List UInt8) : Prop:=Sl D w 1 v l.length (l.map byteV)
theorem Bytes.mono {D D' : Nat → Prop} {w w' : World} {v : Value} {l : List UInt8} (h : Bytes D w v l) (hk : Keeps D w w') (hw : w.heap.size ≤ w'.heap.size) (hd : ∀ i,i < w.heap.size → D i → D' i) : Bytes D' w' v l:=Sl.mono h hk hw hd
/-- What a list of things with cells reads as,each with its own reading. -/
def Recs {α : Type} (R : World → α → List Value → Prop) (w : World) : List α → List Value → Prop
 | [],xs=>xs = []
 | a :: l,xs=>∃ c r,xs = c ++ r ∧ R w a c ∧ Recs R w l r
theorem Recs.mono {α : Type} {R R' : World → α → List Value → Prop} {w w' : World} (h : ∀ a c,R w a c → R' w' a c) : ∀ (l : List α) (xs : List Value),Recs R w l xs → Recs R' w' l xs
 | [],_,hx=>hx
 | _ :: l,_,⟨c,r,hx,hc,hr⟩=>⟨c,r,hx,h _ _ hc,Recs.mono h l r hr⟩
/-- The k-th thing's cells stand at k times the size. -/
theorem Recs.get {α : Type} {R : World → α → List Value → Prop} {w : World} {s : Nat} (hs : ∀ a c,R w a c → c.length = s) : ∀ (l : List α) (xs : List Value),Recs R w l xs → ∀ (k : Nat) (hk : k < l.length),
   ∃ c,R w l[k] c ∧ ∀ j,j < s → xs[k * s + j]? = c[j]?
 | a :: l,_,⟨c,r,hx,hc,hr⟩,0,_=>⟨c,hc,fun j hj=>by rw [hx,Nat.zero_mul,Nat.zero_add,List.getElem?_append_left (by rw [hs _ _ hc]; exact hj)]⟩
 | a :: l,_,⟨c,r,hx,hc,hr⟩,k + 1,hk=>by
   obtain ⟨c',hc',hj⟩:=Recs.get hs l r hr k (by simpa using hk)
   refine ⟨c',hc',fun j h=>?_⟩
   have:=hs _ _ hc
   rw [hx,List.getElem?_append_right (by rw [this,Nat.add_mul]; omega),← hj j h]
   congr 1
   rw [this,Nat.add_mul]
   omega
theorem Recs.length {α : Type} {R : World → α → List Value → Prop} {w : World} {s : Nat} (hs : ∀ a c,R w a c → c.length = s) : ∀ (l : List α) (xs : List Value),Recs R w l xs → xs.length = l.length * s
 | [],xs,hx=>by cases hx; simp
 | a :: l,_,⟨c,r,hx,hc,hr⟩=>by rw [hx,List.length_append,hs _ _ hc,Recs.length hs l r hr,List.length_cons,Nat.add_mul]; omega
/-- A piece. -/
structure Pc where
 C : Int
 B : List UInt8
/-- A backup. -/
structure Bk where
 name : ByteArray
 parent : ByteArray
 bits : Int
 size : Int
 pieces : List Pc
/-- A piece of the program's. -/
def PcCells (D : Nat → Prop) (w : World) (p : Pc) (c : List Value) : Prop:=∃ bv,c = [.int .i64 p.C,bv] ∧ Bytes D w bv p.B
/-- A slice of pieces. -/
def Pieces (D : Nat → Prop) (w : World) (v : Value) (l : List Pc) : Prop:=∃ xs,Sl D w 2 v l.length xs ∧ Recs (PcCells D) w l xs
/-- A backup of the program's,as five cells. -/
def BkCells (D : Nat → Prop) (w : World) (b : Bk) (c : List Value) : Prop :=
 ∃ pv,c = [.string b.name,.string b.parent,.int .i64 b.bits,.int .i64 b.size,pv] ∧ Pieces D w pv b.pieces
theorem PcCells.mono {D D' : Nat → Prop} {w w' : World} (hk : Keeps D w w') (hw : w.heap.size ≤ w'.heap.size) (hd : ∀ i,i < w.heap.size → D i → D' i) (p : Pc) (c : List Value) (h : PcCells D w p c) : PcCells D' w' p c:=by
 obtain ⟨bv,hc,hb⟩:=h
 exact ⟨bv,hc,hb.mono hk hw hd⟩
theorem Pieces.mono {D D' : Nat → Prop} {w w' : World} {v : Value} {l : List Pc} (h : Pieces D w v l) (hk : Keeps D w w') (hw : w.heap.size ≤ w'.heap.size) (hd : ∀ i,i < w.heap.size → D i → D' i) : Pieces D' w' v l:=by
 obtain ⟨xs,h1,h2⟩:=h
 exact ⟨xs,h1.mono hk hw hd,Recs.mono (PcCells.mono hk hw hd) l xs h2⟩
theorem BkCells.mono {D D' : Nat → Prop} {w w' : World} (hk : Keeps D w w') (hw : w.heap.size ≤ w'.heap.size) (hd : ∀ i,i < w.heap.size → D i → D' i) (b : Bk) (c : List Value) (h : BkCells D w b c) : BkCells D' w' b c:=by
 obtain ⟨pv,hc,hp⟩:=h
 exact ⟨pv,hc,hp.mono hk hw hd⟩
theorem PcCells.len {D : Nat → Prop} {w : World} (p : Pc) (c : List Value) (h : PcCells D w p c) : c.length = 2:=by obtain ⟨bv,rfl,_⟩:=h; rfl
theorem BkCells.len {D : Nat → Prop} {w : World} (b : Bk) (c : List Value) (h : BkCells D w b c) : c.length = 5:=by obtain ⟨pv,rfl,_⟩:=h; rfl
/-- The k-th piece,as the walk asks for it. -/
theorem Pieces.at_ {D : Nat → Prop} {w : World} {A : Option Addr} {n c : Nat} {l : List Pc} (h : Pieces D w (.slice A n c) l) {k : Nat} (hk : k < n) :
   n = l.length ∧ ∃ b o bv,∃ hk' : k < l.length,A = some ⟨b,o,none⟩ ∧ D b ∧ b < w.heap.size ∧ w.cell? ⟨b,o + k * 2,none⟩ = some (.int .i64 (l[k]'hk').C) ∧ w.cell? ⟨b,o + k * 2 + 1,none⟩ = some bv ∧ Bytes D w bv (l[k]'hk').B:=by
 obtain ⟨xs,⟨hl,A',c',he,_,_,h3⟩,hr⟩:=h
 injection he with e1 e2 e3
 subst e1 e2 e3
 obtain ⟨b,o,rfl,hD,hb,hc⟩:=h3 (by omega)
 obtain ⟨cs,⟨bv,rfl,hB⟩,hj⟩:=Recs.get PcCells.len l xs hr k hk
 refine ⟨rfl,b,o,bv,hk,rfl,hD,hb,?_,?_,hB⟩
 · exact hc (k * 2) _ (by simpa using hj 0 (by omega))
 · have:=hc (k * 2 + 1) _ (by simpa using hj 1 (by omega))
   simpa [Nat.add_assoc] using this
theorem Pieces.form {D : Nat → Prop} {w : World} {v : Value} {l : List Pc} (h : Pieces D w v l) : ∃ A c,v = .slice A l.length c ∧ l.length ≤ c ∧ c ≤ maxLen:=by
 obtain ⟨xs,⟨_,A,c,rfl,h1,h2,_⟩,_⟩:=h
 exact ⟨A,c,rfl,h1,h2⟩
theorem Bytes.form {D : Nat → Prop} {w : World} {v : Value} {l : List UInt8} (h : Bytes D w v l) : ∃ A c,v = .slice A l.length c ∧ l.length ≤ c ∧ c ≤ maxLen:=by
 obtain ⟨_,A,c,rfl,h1,h2,_⟩:=h
 exact ⟨A,c,rfl,h1,h2⟩
/-! ### append onto a row of the call's own,from whatever slice -/
theorem addr_add (b o j : Nat) : (⟨b,o,none⟩ : Addr).add j = ⟨b,o + j,none⟩:=by
 unfold Addr.add
 split
 · rename_i h; subst h; rfl
 · rfl
theorem run_append_none {P : Program} (w : World) (base : Nat) (t ty e : TypeId) (i : TypeInfo) (size : Nat) (ht : P.underlying t = some (.slice e)) (hi : P.info? e = some i)
   (v : Value) (n : Nat) (xs : List Value) (hown : w.ownsRow base e size v n xs) (c : Nat) : (Builtin.append_ #[t,t] ty #[v,.slice none 0 c]).run P w = .ok v w:=by
 rcases hown.2 with ⟨rfl,rfl⟩ | ⟨g,cap,cur,rfl,_,_,hnc,_⟩
 · simp [Builtin.append_,run_underlying ht,sizeOf,typeInfo,hi,Builtin.lenOf,Builtin.firstCells]
 · simp [Builtin.append_,run_underlying ht,sizeOf,typeInfo,hi,Builtin.lenOf,Builtin.firstCells,hnc,storeCells]
theorem run_append_sl {P : Program} (w : World) (base : Nat) (t ty e : TypeId) (i : TypeInfo) (z : Value) (size bytes : Nat) (ht : P.underlying t = some (.slice e)) (hi : P.info? e = some i) (hz : i.zero = some z)
   (hsize : i.size = size) (hby : i.bytes = bytes) (hzs : z.cells.size = size) (hsz : 0 < size)
   (v : Value) (n : Nat) (xs : List Value) (hown : w.ownsRow base e size v n xs)
   (D : Nat → Prop) (src : Value) (m : Nat) (news : List Value) (hr : Sl D w size src m news) (h1 : ∀ u ∈ news,u.oneCell' = true)
   (h63 : n + m ≤ maxLen) (hbytes : (n + m) * bytes ≤ 140737488355328) (hbase : base ≤ w.heap.size) :
   ∃ v' w',(Builtin.append_ #[t,t] ty #[v,src]).run P w = .ok v' w' ∧ w'.ownsRow base e size v' (n + m) (xs ++ news) ∧ w.grownBy w' v.ownBlock ∧
     (v'.ownBlock = v.ownBlock ∨ v'.ownBlock = some w.heap.size):=by
 obtain ⟨hl,A,c,rfl,_,_,h3⟩:=hr
 rcases A with _ | ad
 · have hm : m = 0:=by
     rcases Nat.eq_zero_or_pos m with h0 | h0
     · exact h0
     · obtain ⟨b,o,h,_⟩:=h3 h0
       cases h
   subst hm
   have hn : news = []:=List.eq_nil_of_length_eq_zero (by simpa using hl)
   subst hn
   exact ⟨v,w,run_append_none w base t ty e i size ht hi v n xs hown c,by simpa using hown,World.grownBy.refl w _,.inl rfl⟩
 · have hcells : ∀ j u,news[j]? = some u → w.cell? (ad.add j) = some u:=by
     intro j u hu
     rcases Nat.eq_zero_or_pos m with h0 | h0
     · subst h0
       have hn : news = []:=List.eq_nil_of_length_eq_zero (by simpa using hl)
       subst hn
       simp at hu
     · obtain ⟨b,o,h,_,_,hc⟩:=h3 h0
       injection h with h
       subst h
       rw [addr_add]
       exact hc j u hu
   obtain ⟨v',w',hrun,h2,h4,_,h5⟩:=run_append_own_at (P:=P) w base t ty e i z size bytes ht hi hz hsize hby hzs hsz v n xs hown ad m c news hl hcells h1 h63 hbytes hbase
   exact ⟨v',w',hrun,h2,h4,h5⟩
theorem byteV_one (l : List UInt8) : ∀ u ∈ l.map byteV,u.oneCell' = true:=by
 intro u hu
 obtain ⟨c,_,rfl⟩:=List.mem_map.1 hu
 rfl
/-- A row of the call's own reads as a slice. -/
theorem Sl.of_own {w : World} {base : Nat} {e : TypeId} {size n : Nat} {v : Value} {xs : List Value} (h : w.ownsRow base e size v n xs) : Sl (fun i=>v.ownBlock = some i) w size v n xs:=by
 refine ⟨h.1,?_⟩
 rcases h.2 with ⟨rfl,rfl⟩ | ⟨g,cap,cur,rfl,hg,hh,h1,h2,h3,h4⟩
 · exact ⟨none,0,rfl,Nat.le_refl _,by decide,fun h=>absurd h (by omega)⟩
 · refine ⟨_,cap,rfl,h1,h2,fun _=>⟨g,0,rfl,rfl,(h.lt g rfl).2,fun j u hj=>?_⟩⟩
   have:=h.cells (g:=g) rfl j u hj
   rwa [addr_add] at this
theorem Sl.weaken {D D' : Nat → Prop} {w : World} {size n : Nat} {v : Value} {xs : List Value} (h : Sl D w size v n xs) (hd : ∀ i,i < w.heap.size → D i → D' i) : Sl D' w size v n xs:=h.mono (Keeps.refl _ _) (Nat.le_refl _) hd
theorem keep {W w1 : World} (hb : Below W.heap.size W w1) {p : Addr} {v : Value} (h : W.cell? p = some v) : w1.cell? p = some v :=
 (hb.cell (World.block_lt_of_cell? W p h)).trans h
/-- The cells of a block,known whole,none frozen. -/
def Cs (w : World) (g : Nat) (l : List Value) : Prop:=∃ t,w.heap[g]? = some (.cells l.toArray t (0,0))
theorem Cs.c {w : World} {g : Nat} {l : List Value} (h : Cs w g l) (j : Nat) (u : Value) (hj : l[j]? = some u) : w.cell? ⟨g,j,none⟩ = some u:=by
 obtain ⟨t,h⟩:=h
 simp [World.cell?,h,hj]
theorem Cs.keep {W w1 : World} (hb : Below W.heap.size W w1) {g : Nat} {l : List Value} (h : Cs W g l) : Cs w1 g l:=by
 obtain ⟨t,h⟩:=h
 exact ⟨t,(hb.block g (lt_of_heap h)).trans h⟩
theorem Cs.far {W w1 : World} {g : Nat} {l : List Value} (h : Cs W g l) (hb : w1.heap[g]? = W.heap[g]?) : Cs w1 g l:=by
 obtain ⟨t,h⟩:=h
 exact ⟨t,hb.trans h⟩
theorem Cs.lt {w : World} {g : Nat} {l : List Value} (h : Cs w g l) : g < w.heap.size:=by
 obtain ⟨t,h⟩:=h
 exact lt_of_heap h
theorem Cs.set {w : World} {g : Nat} {l : List Value} (h : Cs w g l) (j : Nat) (u : Value) : Cs (w.setCell ⟨g,j,none⟩ u) g (l.set j u):=by
 obtain ⟨t,h⟩:=h
 refine ⟨t,?_⟩
 simp [World.setCell,Array.getElem?_modify,h]
theorem Cs.other {w : World} {g : Nat} {l : List Value} (h : Cs w g l) {p : Addr} (hp : g ≠ p.block) (u : Value) : Cs (w.setCell p u) g l:=h.far (Below.heap_setCell w p u g hp)
theorem Pieces.below {D : Nat → Prop} {w w' : World} {v : Value} {l : List Pc} (h : Pieces D w v l) (hb : Below w.heap.size w w') : Pieces D w' v l :=
 h.mono (Keeps.of_below hb) hb.size fun _ _ h=>h
theorem Bytes.below {D : Nat → Prop} {w w' : World} {v : Value} {l : List UInt8} (h : Bytes D w v l) (hb : Below w.heap.size w w') : Bytes D w' v l :=
 h.mono (Keeps.of_below hb) hb.size fun _ _ h=>h
theorem Sl.below {D : Nat → Prop} {w w' : World} {size n : Nat} {v : Value} {xs : List Value} (h : Sl D w size v n xs) (hb : Below w.heap.size w w') : Sl D w' size v n xs :=
 h.mono (Keeps.of_below hb) hb.size fun _ _ h=>h
theorem alloc_below (w : World) (o : Obj) : Below w.heap.size w (w.alloc o):=(Below.refl _ _).alloc (Nat.le_refl _) _
theorem drew_below (w : World) : Below w.heap.size w w.drew:=(Below.refl _ _).drew
/-! ### a row of the call's own whose elements are records -/
def RMono {α : Type} (R : (Nat → Prop) → World → α → List Value → Prop) : Prop :=
 ∀ (D D' : Nat → Prop) (w w' : World),Keeps D w w' → w.heap.size ≤ w'.heap.size → (∀ i,i < w.heap.size → D i → D' i) → ∀ a c,R D w a c → R D' w' a c
/-- From B on,but not in v's own block. -/
def Bo (B : Nat) (v : Value) : Nat → Prop:=fun i=>B ≤ i ∧ v.ownBlock ≠ some i
def OwnRecs {α : Type} (R : (Nat → Prop) → World → α → List Value → Prop) (T s : Nat) (w : World) (B : Nat) (v : Value) (l : List α) : Prop :=
 ∃ xs,w.ownsRow B T s v l.length xs ∧ Recs (R (Bo B v)) w l xs
theorem OwnRecs.nil {α : Type} (R : (Nat → Prop) → World → α → List Value → Prop) (T s : Nat) (w : World) (B : Nat) : OwnRecs R T s w B (.slice none 0 0) []:=⟨[],World.ownsRow_nil _ _ _ _,rfl⟩
theorem own_below {w w' : World} {base : Nat} {e : TypeId} {size n : Nat} {v : Value} {xs : List Value} (h : w.ownsRow base e size v n xs) (hb : Below w.heap.size w w') : w'.ownsRow base e size v n xs :=
 h.kept (row:=none) ⟨hb.os,hb.tape,hb.output,hb.size,fun k hk _=>hb.block k hk⟩ (by cases v.ownBlock <;> simp)
theorem OwnRecs.below {α : Type} {R : (Nat → Prop) → World → α → List Value → Prop} (hR : RMono R) {T s : Nat} {w w' : World} {B : Nat} {v : Value} {l : List α} (h : OwnRecs R T s w B v l) (hb : Below w.heap.size w w') : OwnRecs R T s w' B v l:=by
 obtain ⟨xs,h1,h2⟩:=h
 exact ⟨xs,own_below h1 hb,Recs.mono (fun a c hc=>hR _ _ _ _ (Keeps.of_below hb) hb.size (fun _ _ h=>h) a c hc) l xs h2⟩
theorem OwnRecs.pieces {T : Nat} {w : World} {B : Nat} {v : Value} {l : List Pc} (h : OwnRecs PcCells T 2 w B v l) : Pieces (fun i=>B ≤ i) w v l:=by
 obtain ⟨xs,h1,h2⟩:=h
 exact ⟨xs,(Sl.of_own h1).weaken fun i _ hi=>(h1.lt i hi).1,Recs.mono (fun a c hc=>PcCells.mono (Keeps.refl _ _) (Nat.le_refl _) (fun i _ hi=>hi.1) a c hc) l xs h2⟩
/-- The k-th piece,as the walk asks for it: its bytes' slice written out. -/
theorem Pieces.get {D : Nat → Prop} {w : World} {A : Option Addr} {n c : Nat} {l : List Pc} (h : Pieces D w (.slice A n c) l) {k : Nat} {p : Pc} (hx : l[k]? = some p) :
   ∃ b o A' c',A = some ⟨b,o,none⟩ ∧ D b ∧ b < w.heap.size ∧ w.cell? ⟨b,o + k * 2,none⟩ = some (.int .i64 p.C) ∧ w.cell? ⟨b,o + k * 2 + 1,none⟩ = some (.slice A' p.B.length c') ∧ Bytes D w (.slice A' p.B.length c') p.B ∧ p.B.length ≤ c' ∧ c' ≤ maxLen:=by
 obtain ⟨hk,rfl⟩:=List.getElem?_eq_some_iff.1 hx
 have hn : n = l.length:=by obtain ⟨A',c',he,_,_⟩:=h.form; injection he
 obtain ⟨-,b,o,bv,hk',rfl,hD,hb,c0,c1,hB⟩:=h.at_ (k:=k) (by omega)
 obtain ⟨A',c',rfl,h1,h2⟩:=hB.form
 exact ⟨b,o,A',c',rfl,hD,hb,c0,c1,hB,h1,h2⟩
theorem Sl.drew {D : Nat → Prop} {w : World} {size n : Nat} {v : Value} {xs : List Value} (h : Sl D w size v n xs) : Sl D w.drew size v n xs:=h
theorem fr_grown {w w' : World} {row : Option Nat} {S : Nat → Prop} (hg : w.grownBy w' row) (hr : ∀ k,row = some k → S k) : Fr S w w' :=
 ⟨hg.os,hg.tape,hg.output,hg.size,fun k hk hn=>hg.block k hk (fun e=>hn (hr k e.symm))⟩
/-! ### copy into a block that is known whole,from whatever slice -/
theorem copy_src {D : Nat → Prop} {w : World} {m : Nat} {src : Value} {ys : List Value} (h : Sl D w 1 src m ys) (dLen : Nat) :
   ∃ sp sCap,src = .slice sp m sCap ∧ (ys.take dLen).length = Nat.min m dLen ∧ (0 < (ys.take dLen).length → ∃ ad,sp = some ad ∧ ∀ j v,(ys.take dLen)[j]? = some v → w.cell? (ad.add j) = some v):=by
 obtain ⟨hl,A,c,rfl,_,_,h3⟩:=h
 have hl1 : ys.length = m:=by omega
 have hmin : (ys.take dLen).length = Nat.min m dLen:=by rw [List.length_take,hl1]; exact Nat.min_comm _ _
 refine ⟨A,c,rfl,hmin,fun hp=>?_⟩
 have hm : 0 < m:=by
   have:=Nat.min_le_left m dLen
   have e : min m dLen = Nat.min m dLen:=rfl
   omega
 obtain ⟨b,o,rfl,_,_,hc⟩:=h3 hm
 refine ⟨_,rfl,fun j v hj=>?_⟩
 rw [addr_add]
 refine hc j v ?_
 rw [List.getElem?_take] at hj
 split at hj
 · exact hj
 · cases hj
/-! ### between strings and bytes -/
theorem run_str_bytes {P : Program} (w : World) (src dst e : TypeId) (s : ByteArray) (hs : P.underlying src = some .string) (hd : P.underlying dst = some (.slice e)) (he : P.underlying e = some (.int .u8)) (hm : s.size ≤ 4294967296) :
   ∃ cap w1,(convert src dst (.string s)).run P w = .ok (.slice (some ⟨w.heap.size,0,none⟩) s.size cap) w1 ∧ Bytes (fun i=>w.heap.size ≤ i) w1 (.slice (some ⟨w.heap.size,0,none⟩) s.size cap) s.data.toList ∧ Below w.heap.size w w1:=by
 refine ⟨_,_,Lib.run_convert_string_bytes w src dst e s hs hd he,?_,?_⟩
 · have hl : s.data.toList.length = s.size:=by simp
   unfold Bytes
   rw [hl]
   refine ⟨by rw [List.length_map,hl]; omega,_,_,rfl,grownCap_ge _ _ _ _,grownCap_le_maxLen _ _ _ _ (by simp only [maxLen]; omega),fun _=>⟨_,0,rfl,Nat.le_refl _,by rw [Lib.bytesWorld_size]; omega,fun j u hj=>?_⟩⟩
   have hjl : j < s.data.toList.length:=by
     have:=(List.getElem?_eq_some_iff.1 hj).1
     simpa using this
   rw [Nat.zero_add,Lib.bytesWorld_cell w e s j (by omega)]
   rw [List.getElem?_map,List.getElem?_eq_getElem hjl] at hj
   simp only [Option.map_some,Option.some.injEq] at hj
   rw [← hj,List.getD_eq_getElem?_getD,List.getElem?_eq_getElem hjl]
   rfl
 · exact ⟨rfl,rfl,rfl,by rw [Lib.bytesWorld_size]; omega,fun k hk=>Lib.bytesWorld_at_old w e s k hk⟩
theorem run_bytes_str {P : Program} {D : Nat → Prop} {w : World} {A : Option Addr} {n c : Nat} {l : List UInt8} (h : Bytes D w (.slice A n c) l) (src dst e : TypeId) (hs : P.underlying src = some (.slice e)) (he : P.underlying e = some (.int .u8)) (hd : P.underlying dst = some .string) :
   (convert src dst (.slice A n c)).run P w = .ok (.string ⟨l.toArray⟩) w:=by
 obtain ⟨hl,A',c',hv,_,_,h3⟩:=h
 injection hv with e1 e2 e3
 subst e1 e2 e3
 rcases A with _ | ad
 · have h0 : l = []:=by
     rcases Nat.eq_zero_or_pos l.length with h | h
     · exact List.eq_nil_of_length_eq_zero h
     · obtain ⟨b,o,ha,_⟩:=h3 h; cases ha
   subst h0
   exact run_convert_bytes_nil w src e hs he _ _ dst hd
 · refine run_convert_bytes_back w src dst e ad _ l hs he hd fun j hj=>?_
   obtain ⟨b,o,ha,_,_,hc⟩:=h3 (by omega)
   injection ha with ha
   subst ha
   rw [addr_add]
   exact hc j _ (by simp [List.getElem?_eq_getElem hj,byteV])
/-- A piece of the document's. -/
def RPcCells (_ : Nat → Prop) (_ : World) (p : Pc) (c : List Value) : Prop:=c = [.int .i64 p.C,.string ⟨p.B.toArray⟩]
def RPieces (D : Nat → Prop) (w : World) (v : Value) (l : List Pc) : Prop:=∃ xs,Sl D w 2 v l.length xs ∧ Recs (RPcCells D) w l xs
theorem RPieces.mono {D D' : Nat → Prop} {w w' : World} {v : Value} {l : List Pc} (h : RPieces D w v l) (hk : Keeps D w w') (hw : w.heap.size ≤ w'.heap.size) (hd : ∀ i,i < w.heap.size → D i → D' i) : RPieces D' w' v l:=by
 obtain ⟨xs,h1,h2⟩:=h
 exact ⟨xs,h1.mono hk hw hd,Recs.mono (R:=RPcCells D) (R':=RPcCells D') (fun _ _ h=>h) l xs h2⟩
theorem RPieces.below {D : Nat → Prop} {w w' : World} {v : Value} {l : List Pc} (h : RPieces D w v l) (hb : Below w.heap.size w w') : RPieces D w' v l:=h.mono (Keeps.of_below hb) hb.size fun _ _ h=>h
theorem RPieces.form {D : Nat → Prop} {w : World} {v : Value} {l : List Pc} (h : RPieces D w v l) : ∃ A c,v = .slice A l.length c ∧ l.length ≤ c ∧ c ≤ maxLen:=by
 obtain ⟨xs,⟨_,A,c,rfl,h1,h2,_⟩,_⟩:=h
 exact ⟨A,c,rfl,h1,h2⟩
/-- The cells of the k-th element of a slice. -/
theorem Sl.elem {α : Type} {D : Nat → Prop} {w : World} {s : Nat} {A : Option Addr} {n c : Nat} {l : List α} {xs : List Value} {R : World → α → List Value → Prop} (h : Sl D w s (.slice A n c) l.length xs) (hr : Recs R w l xs) (hs : ∀ a c,R w a c → c.length = s) {k : Nat} {x : α} (hx : l[k]? = some x) :
   n = l.length ∧ k < n ∧ ∃ b o cs,A = some ⟨b,o,none⟩ ∧ D b ∧ b < w.heap.size ∧ R w x cs ∧ ∀ j u,cs[j]? = some u → w.cell? ⟨b,o + (k * s + j),none⟩ = some u:=by
 obtain ⟨hk,rfl⟩:=List.getElem?_eq_some_iff.1 hx
 obtain ⟨hl,A',c',he,_,_,h3⟩:=h
 injection he with e1 e2 e3
 subst e1 e2 e3
 obtain ⟨b,o,rfl,hD,hb,hc⟩:=h3 (by omega)
 obtain ⟨cs,hR,hj⟩:=Recs.get hs l xs hr k hk
 refine ⟨rfl,hk,b,o,cs,rfl,hD,hb,hR,fun j u hju=>hc _ u ?_⟩
 have hjs : j < s:=by rw [← hs _ _ hR]; exact (List.getElem?_eq_some_iff.1 hju).1
 rw [hj j hjs]; exact hju
theorem RPieces.get {D : Nat → Prop} {w : World} {A : Option Addr} {n c : Nat} {l : List Pc} (h : RPieces D w (.slice A n c) l) {k : Nat} {p : Pc} (hx : l[k]? = some p) :
   ∃ b o,A = some ⟨b,o,none⟩ ∧ D b ∧ b < w.heap.size ∧ w.cell? ⟨b,o + k * 2,none⟩ = some (.int .i64 p.C) ∧ w.cell? ⟨b,o + k * 2 + 1,none⟩ = some (.string ⟨p.B.toArray⟩):=by
 obtain ⟨xs,h1,h2⟩:=h
 obtain ⟨-,-,b,o,cs,rfl,hD,hb,hR,hc⟩:=Sl.elem h1 h2 (fun a c h=>by unfold RPcCells at h; subst h; rfl) hx
 unfold RPcCells at hR
 subst hR
 refine ⟨b,o,rfl,hD,hb,?_,?_⟩
 · simpa using hc 0 _ rfl
 · simpa [Nat.add_assoc] using hc 1 _ rfl
theorem heap_alloc_at {w : World} (o : Obj) {g : Nat} (h : g = w.heap.size) : (w.alloc o).heap[g]? = some o:=by subst h; exact heap_alloc_new w o
end Go.Proofs.YteoamepgonpdlaaGreat
/-!
  Data without addresses: a small universe of types, their values, and what a value, a place or a block of memory reads as. No program in sight.
-/
namespace Go.Proofs.YteoamepgonpdlaaGreat
set_option linter.unusedVariables false
set_option linter.unusedSimpArgs false
open Go.RowKit
/-- The types of data: numbers,bytes,truth values,texts,slices,two things side by side,arrays. -/
inductive U where
 | int (k : IntKind)
 | u8
 | bool
 | str
 | adr
 | hdl
 | fn
 | sl (u : U)
 | pr (u v : U)
 | arr (n : Nat) (u : U)
/-- Their values. -/
def El : U → Type
 | .int _=>Int
 | .u8=>UInt8
 | .bool=>Bool
 | .str=>List UInt8
 | .adr=>Option Nat
 | .hdl=>Option (Nat × Nat × Nat)
 | .fn=>Nat × List Nat
 | .sl u=>List (El u)
 | .pr u v=>El u × El v
 | .arr _ u=>List (El u)
/-- How many cells. -/
def sz : U → Nat
 | .int _=>1
 | .u8=>1
 | .bool=>1
 | .str=>1
 | .adr=>1
 | .hdl=>1
 | .fn=>1
 | .sl _=>1
 | .pr u v=>sz u + sz v
 | .arr n u=>n * sz u
def dflt : (u : U) → El u
 | .int _=>(0 : Int)
 | .u8=>(0 : UInt8)
 | .bool=>false
 | .str=>([] : List UInt8)
 | .adr=>(none : Option Nat)
 | .hdl=>(none : Option (Nat × Nat × Nat))
 | .fn=>((0,[]) : Nat × List Nat)
 | .sl _=>[]
 | .pr u v=>(dflt u,dflt v)
 | .arr n u=>List.replicate n (dflt u)
/-- What one cell has. -/
inductive D where
 | int (k : IntKind) (n : Int)
 | lit (b : Bool)
 | bool (b : Bool)
 | str (s : List UInt8)
 | adr (x : Option Nat)
 | hdl (x : Option (Nat × Nat × Nat))
 | fn (x : Nat × List Nat)
 | lst (u : U) (xs : List (El u))
/-- The j-th cell of a value. -/
def cellU : (u : U) → El u → Nat → D
 | .int k,n,_=>.int k n
 | .u8,b,_=>.int .u8 (UInt8.toNat b : Int)
 | .bool,b,_=>.bool b
 | .str,s,_=>.str s
 | .adr,x,_=>.adr x
 | .hdl,x,_=>.hdl x
 | .fn,x,_=>.fn x
 | .sl u,xs,_=>.lst u xs
 | .pr u v,p,j=>match Nat.blt j (sz u) with
   | true=>cellU u p.1 j
   | false=>cellU v p.2 (j - sz u)
 | .arr _ u,xs,j=>cellU u (List.getD xs (j / sz u) (dflt u)) (j % sz u)
def lget {α : Type} (xs : List α) (i : Nat) : Option α:=xs[i]?
def lmem {α : Type} (x : α) (xs : List α) : Prop:=x ∈ xs
theorem lget_getD {α : Type} (xs : List α) (i : Nat) (d : α) (h : i < xs.length) : lget xs i = some (xs.getD i d):=by
 unfold lget
 rw [List.getD_eq_getElem?_getD,List.getElem?_eq_getElem h]
 rfl
theorem getD_lget {α : Type} {xs : List α} {i : Nat} {y : α} (d : α) (h : lget xs i = some y) : xs.getD i d = y:=by
 unfold lget at h
 rw [List.getD_eq_getElem?_getD,h]
 rfl
theorem lget_lt {α : Type} {xs : List α} {i : Nat} {y : α} (h : lget xs i = some y) : i < xs.length:=(List.getElem?_eq_some_iff.1 h).1
theorem lget_mem {α : Type} {xs : List α} {i : Nat} {y : α} (h : lget xs i = some y) : lmem y xs:=List.mem_of_getElem? h
/-- An array has as many things as it has. -/
def WfU : (u : U) → El u → Prop
 | .pr u v,p=>WfU u p.1 ∧ WfU v p.2
 | .arr n u,xs=>List.length xs = n ∧ ∀ x,lmem (α:=El u) x xs → WfU u x
 | _,_=>True
/-- A pointer to a block,by its number in the heap. -/
def adrP : Option Nat → Option Addr
 | none=>none
 | some b=>some ⟨b,0,none⟩
/-- A slice over the whole of a row,by the row's block,its length,its room. -/
def hdlV : Option (Nat × Nat × Nat) → Value
 | none=>.slice none 0 0
 | some (b,n,cap)=>.slice (some ⟨b,0,none⟩) n cap
/-- A function with what it has captured: pointers to blocks,by their numbers. -/
def ptrsV : List Nat → List Value
 | []=>[]
 | b :: l=>.pointer (some ⟨b,0,none⟩) :: ptrsV l
def fnV (x : Nat × List Nat) : Value:=.func (.func x.1) #[] (List.toArray (ptrsV x.2))
/-- What cells 'c' read as; the blocks that are looked into are of I. -/
def DenU (I : Nat → Prop) (w : World) : (u : U) → El u → (Nat → Option Value) → Prop
 | .int k,n,c=>c 0 = some (.int k n)
 | .u8,b,c=>c 0 = some (.int .u8 (UInt8.toNat b : Int))
 | .bool,b,c=>c 0 = some (.bool b)
 | .str,s,c=>c 0 = some (.string ⟨List.toArray s⟩)
 | .adr,x,c=>c 0 = some (.pointer (adrP x))
 | .hdl,x,c=>c 0 = some (hdlV x)
 | .fn,x,c=>c 0 = some (fnV x)
 | .sl u,xs,c=>∃ A cap,c 0 = some (.slice A (List.length xs) cap) ∧ List.length xs ≤ cap ∧ cap ≤ maxLen ∧
     (0 < List.length xs → ∃ b o,A = some ⟨b,o,none⟩ ∧ I b ∧ ∀ i x,lget (α:=El u) xs i = some x → DenU I w u x (fun j=>w.cell? ⟨b,o + (i * sz u + j),none⟩))
 | .pr u v,p,c=>DenU I w u p.1 c ∧ DenU I w v p.2 (fun j=>c (sz u + j))
 | .arr n u,xs,c=>List.length xs = n ∧ ∀ i x,lget (α:=El u) xs i = some x → DenU I w u x (fun j=>c (i * sz u + j))
def Den (I : Nat → Prop) (w : World) : D → Value → Prop
 | .int k n,v=>v = .int k n
 | .lit b,v=>v = .bool b
 | .bool b,v=>v = .bool b
 | .str s,v=>v = .string ⟨s.toArray⟩
 | .adr x,v=>v = .pointer (adrP x)
 | .hdl x,v=>v = hdlV x
 | .fn x,v=>v = fnV x
 | .lst u xs,v=>DenU I w (.sl u) xs (fun _=>some v)
/-- Blocks that are as they were. -/
def Ext (I : Nat → Prop) (w : World) (I' : Nat → Prop) (w' : World) : Prop:=∀ b,I b → I' b ∧ w'.heap[b]? = w.heap[b]?
section
variable {I I' : Nat → Prop} {w w' : World}
theorem Ext.refl (I : Nat → Prop) (w : World) : Ext I w I w:=fun _ h=>⟨h,rfl⟩
theorem Ext.trans {I'' : Nat → Prop} {w'' : World} (h : Ext I w I' w') (k : Ext I' w' I'' w'') : Ext I w I'' w'':=fun b hb=>⟨(k b (h b hb).1).1,(k b (h b hb).1).2.trans (h b hb).2⟩
theorem cell_ext {b o : Nat} {v : Value} (h : w'.heap[b]? = w.heap[b]?) (hc : w.cell? ⟨b,o,none⟩ = some v) : w'.cell? ⟨b,o,none⟩ = some v :=
 (World.cell?_of_block (a:=⟨b,o,none⟩) h).trans hc
theorem DenU.mono (he : Ext I w I' w') : ∀ (u : U) (x : El u) (c c' : Nat → Option Value),(∀ j v,c j = some v → c' j = some v) → DenU I w u x c → DenU I' w' u x c':=by
 intro u
 induction u with
 | int k=>exact fun x c c' hc h=>hc _ _ h
 | u8=>exact fun x c c' hc h=>hc _ _ h
 | bool=>exact fun x c c' hc h=>hc _ _ h
 | str=>exact fun x c c' hc h=>hc _ _ h
 | adr=>exact fun x c c' hc h=>hc _ _ h
 | hdl=>exact fun x c c' hc h=>hc _ _ h
 | fn=>exact fun x c c' hc h=>hc _ _ h
 | sl u ih =>
   rintro x c c' hc ⟨A,cap,h0,h1,h2,h3⟩
   refine ⟨A,cap,hc _ _ h0,h1,h2,fun hl=>?_⟩
   obtain ⟨b,o,hA,hI,hx⟩:=h3 hl
   exact ⟨b,o,hA,(he b hI).1,fun i y hy=>ih _ _ _ (fun j v hv=>cell_ext (he b hI).2 hv) (hx i y hy)⟩
 | pr u v ih1 ih2=>exact fun x c c' hc h=>⟨ih1 _ _ _ hc h.1,ih2 _ _ _ (fun j v hv=>hc _ _ hv) h.2⟩
 | arr n u ih=>exact fun x c c' hc h=>⟨h.1,fun i y hy=>ih _ _ _ (fun j v hv=>hc _ _ hv) (h.2 i y hy)⟩
theorem Den.mono (he : Ext I w I' w') : ∀ (x : D) (v : Value),Den I w x v → Den I' w' x v
 | .int _ _,_,h=>h
 | .lit _,_,h=>h
 | .bool _,_,h=>h
 | .str _,_,h=>h
 | .adr _,_,h=>h
 | .hdl _,_,h=>h
 | .fn _,_,h=>h
 | .lst u xs,v,h=>DenU.mono he (.sl u) xs (fun _=>some v) (fun _=>some v) (fun _ _ h=>h) h
theorem sz_div {j n s : Nat} (h : j < n * s) : j / s < n ∧ j % s < s ∧ j / s * s + j % s = j:=by
 have hs : 0 < s:=by
   rcases Nat.eq_zero_or_pos s with h0 | h0
   · subst h0; simp at h
   · exact h0
 exact ⟨(Nat.div_lt_iff_lt_mul hs).2 h,Nat.mod_lt _ hs,by rw [Nat.mul_comm]; exact Nat.div_add_mod j s⟩
/-- Each cell reads as its part. -/
theorem DenU.cell : ∀ (u : U) (x : El u) (c : Nat → Option Value) (j : Nat),DenU I w u x c → j < sz u → ∃ v,c j = some v ∧ Den I w (cellU u x j) v:=by
 intro u
 induction u with
 | int k=>exact fun x c j h hj=>⟨_,(by have : j = 0:=by simp [sz] at hj; exact hj
                                            subst this; exact h),rfl⟩
 | u8=>exact fun x c j h hj=>⟨_,(by have : j = 0:=by simp [sz] at hj; exact hj
                                         subst this; exact h),rfl⟩
 | bool=>exact fun x c j h hj=>⟨_,(by have : j = 0:=by simp [sz] at hj; exact hj
                                           subst this; exact h),rfl⟩
 | str=>exact fun x c j h hj=>⟨_,(by have : j = 0:=by simp [sz] at hj; exact hj
                                          subst this; exact h),rfl⟩
 | adr=>exact fun x c j h hj=>⟨_,(by have : j = 0:=by simp [sz] at hj; exact hj
                                          subst this; exact h),rfl⟩
 | hdl=>exact fun x c j h hj=>⟨_,(by have : j = 0:=by simp [sz] at hj; exact hj
                                          subst this; exact h),rfl⟩
 | fn=>exact fun x c j h hj=>⟨_,(by have : j = 0:=by simp [sz] at hj; exact hj
                                         subst this; exact h),rfl⟩
 | sl u _ =>
   intro x c j h hj
   have : j = 0:=by simp [sz] at hj; exact hj
   subst this
   obtain ⟨A,cap,h0,h1⟩:=h
   exact ⟨_,h0,A,cap,rfl,h1⟩
 | pr u v ih1 ih2 =>
   intro x c j h hj
   simp only [sz] at hj
   unfold cellU
   by_cases hlt : j < sz u
   · rw [show Nat.blt j (sz u) = true by simpa [Nat.blt_eq] using hlt]
     exact ih1 _ _ _ h.1 hlt
   · rw [show Nat.blt j (sz u) = false by rw [Bool.eq_false_iff]; simpa [Nat.blt_eq] using hlt]
     have:=ih2 _ _ (j - sz u) h.2 (by omega)
     rwa [show sz u + (j - sz u) = j by omega] at this
 | arr n u ih =>
   intro x c j h hj
   obtain ⟨e1,e2,e3⟩:=sz_div (by simpa [sz] using hj)
   have hl : j / sz u < List.length x:=by rw [h.1]; exact e1
   have hg : lget (α:=El u) x (j / sz u) = some (List.getD x (j / sz u) (dflt u)):=lget_getD (α:=El u) x _ _ hl
   have:=ih _ _ (j % sz u) (h.2 _ _ hg) e2
   rw [e3] at this
   exact this
/-- And so back. -/
theorem DenU.mk : ∀ (u : U) (x : El u) (c : Nat → Option Value),WfU u x → (∀ j,j < sz u → ∃ v,c j = some v ∧ Den I w (cellU u x j) v) → DenU I w u x c:=by
 intro u
 induction u with
 | int k=>intro x c _ h; obtain ⟨v,h1,h2⟩:=h 0 (by simp [sz]); rw [show v = _ from h2] at h1; exact h1
 | u8=>intro x c _ h; obtain ⟨v,h1,h2⟩:=h 0 (by simp [sz]); rw [show v = _ from h2] at h1; exact h1
 | bool=>intro x c _ h; obtain ⟨v,h1,h2⟩:=h 0 (by simp [sz]); rw [show v = _ from h2] at h1; exact h1
 | str=>intro x c _ h; obtain ⟨v,h1,h2⟩:=h 0 (by simp [sz]); rw [show v = _ from h2] at h1; exact h1
 | hdl=>intro x c _ h; obtain ⟨v,h1,h2⟩:=h 0 (by simp [sz]); rw [show v = _ from h2] at h1; exact h1
 | fn=>intro x c _ h; obtain ⟨v,h1,h2⟩:=h 0 (by simp [sz]); rw [show v = _ from h2] at h1; exact h1
 | adr=>intro x c _ h; obtain ⟨v,h1,h2⟩:=h 0 (by simp [sz]); rw [show v = _ from h2] at h1; exact h1
 | sl u _ =>
   intro x c _ h
   obtain ⟨v,h1,A,cap,h2,h3⟩:=h 0 (by simp [sz])
   exact ⟨A,cap,h1.trans h2,h3⟩
 | pr u v ih1 ih2 =>
   intro x c hw h
   refine ⟨ih1 _ _ hw.1 fun j hj=>?_,ih2 _ _ hw.2 fun j hj=>?_⟩
   · obtain ⟨v,h1,h2⟩:=h j (by simp only [sz]; omega)
     unfold cellU at h2
     rw [show Nat.blt j (sz u) = true by simpa [Nat.blt_eq] using hj] at h2
     exact ⟨v,h1,h2⟩
   · obtain ⟨v',h1,h2⟩:=h (sz u + j) (by simp only [sz]; omega)
     unfold cellU at h2
     rw [show Nat.blt (sz u + j) (sz u) = false by rw [Bool.eq_false_iff]; simp [Nat.blt_eq]] at h2
     rw [show sz u + j - sz u = j by omega] at h2
     exact ⟨v',h1,h2⟩
 | arr n u ih =>
   intro x c hw h
   refine ⟨hw.1,fun i y hy=>ih _ _ (hw.2 y (lget_mem (α:=El u) hy)) fun j hj=>?_⟩
   have hi : i < List.length x:=lget_lt (α:=El u) hy
   have hin : i < n:=by rw [← hw.1]; exact hi
   have hlt : i * sz u + j < n * sz u:=by
     have:=Nat.mul_le_mul_right (sz u) hin
     rw [Nat.succ_mul] at this
     omega
   obtain ⟨v,h1,h2⟩:=h (i * sz u + j) hlt
   unfold cellU at h2
   have e1 : (i * sz u + j) / sz u = i:=by
     rw [Nat.mul_comm,Nat.mul_add_div (by omega),Nat.div_eq_of_lt hj,Nat.add_zero]
   have e2 : (i * sz u + j) % sz u = j:=by
     rw [Nat.mul_comm,Nat.mul_add_mod,Nat.mod_eq_of_lt hj]
   rw [e1,e2] at h2
   rw [show List.getD x i (dflt u) = y from getD_lget (α:=El u) _ hy] at h2
   exact ⟨v,h1,h2⟩
end
/-- A place: a block,and the slice over it where it is one. -/
structure Pl where
 blk : Nat
 A : Option Addr
 n : Nat
 cap : Nat
def Pl.hdr (p : Pl) : Value:=.slice p.A p.n p.cap
/-- What a function value has caught. -/
inductive Cap where
 | p (c off : Nat)
 | d (x : D)
/-- What one cell or slot has: data; a pointer into a block that is known by number; a slice over such a block; a pointer into data. -/
inductive S1 where
 | d (x : D)
 | ptr (c off : Nat)
 | own (c : Nat)
 | el (u : U) (x : El u) (off : Nat)
 | rp (c s i off : Nat)
 | os (c s off n : Nat)
 | mp (c : Nat)
 | clo (f : FuncId) (l : List Cap)
 | nils
 | raw (v : Value)
 | any
inductive SC where
 | one (s : S1)
 | agg (l : List S1)
 | dat (u : U) (x : El u)
inductive SV where
 | c (x : SC)
 | tup (l : List SC)
 | undef
/-- Something of a block's own,told by whoever states it. -/
structure Ob where
 R : (Nat → Prop) → (Nat → Prop) → World → Pl → Prop
 stable : ∀ (I F : Nat → Prop) (w : World) (I' : Nat → Prop) (w' : World) (p : Pl),R I F w p → Ext I w I' w' → (∀ b,F b → w'.heap[b]? = w.heap[b]?) → w.heap.size ≤ w'.heap.size → R I' F w' p
/-- What a block of the call's own is. -/
inductive Ch where
 | cells (l : List S1)
 | row (e : TypeId) (u : U) (xs : List (El u))
 | map (ku vu : U) (es : List (El ku × El vu))
 | val (u : U) (x : El u)
 | obj (o : Ob)
 | dep (d : Nat) (o : Pl → Ob)
def DenCap (ρ : Nat → Pl) (I : Nat → Prop) (w : World) : Cap → Value → Prop
 | .p c off,v=>v = .pointer (some ⟨(ρ c).blk,off,none⟩)
 | .d x,v=>Den I w x v
def DenCaps (ρ : Nat → Pl) (I : Nat → Prop) (w : World) : List Cap → List Value → Prop
 | [],vs=>vs = []
 | s :: l,vs=>∃ v r,vs = v :: r ∧ DenCap ρ I w s v ∧ DenCaps ρ I w l r
def DenS (ρ : Nat → Pl) (I : Nat → Prop) (w : World) : S1 → Value → Prop
 | .d x,v=>Den I w x v
 | .ptr c off,v=>v = .pointer (some ⟨(ρ c).blk,off,none⟩)
 | .own c,v=>v = (ρ c).hdr
 | .el u x off,v=>∃ b o,v = .pointer (some ⟨b,o + off,none⟩) ∧ I b ∧ DenU I w u x (fun j=>w.cell? ⟨b,o + j,none⟩)
 | .rp c s i off,v=>v = .pointer (some ⟨(ρ c).blk,i * s + off,none⟩)
 | .os c s off n,v=>v = .slice (if (ρ c).cap = off then (ρ c).A else (ρ c).A.map (·.add (off * s))) n ((ρ c).cap - off)
 | .mp c,v=>v = .map (some (ρ c).blk)
 | .clo f l,v=>∃ vs,v = .func (.func f) #[] (List.toArray vs) ∧ DenCaps ρ I w l vs
 | .nils,v=>v = .slice none 0 0
 | .raw u,v=>v = u
 | .any,_=>True
def DenL (ρ : Nat → Pl) (I : Nat → Prop) (w : World) : List S1 → List Value → Prop
 | [],vs=>vs = []
 | s :: l,vs=>∃ v r,vs = v :: r ∧ DenS ρ I w s v ∧ DenL ρ I w l r
def DenC (ρ : Nat → Pl) (I : Nat → Prop) (w : World) : SC → Value → Prop
 | .one s,v=>DenS ρ I w s v
 | .agg l,v=>∃ vs,v = .agg (List.toArray vs) ∧ DenL ρ I w l vs
 | .dat u x,v=>∃ vs,v = .agg (List.toArray vs) ∧ vs.length = sz u ∧ DenU I w u x (fun j=>vs[j]?)
def DenCL (ρ : Nat → Pl) (I : Nat → Prop) (w : World) : List SC → List Value → Prop
 | [],vs=>vs = []
 | s :: l,vs=>∃ v r,vs = v :: r ∧ DenC ρ I w s v ∧ DenCL ρ I w l r
def DenV (ρ : Nat → Pl) (I : Nat → Prop) (w : World) : SV → Value → Prop
 | .c x,v=>DenC ρ I w x v
 | .tup l,v=>∃ vs,v = .tuple (List.toArray vs) ∧ DenCL ρ I w l vs
 | .undef,v=>v = Go.undef
/-- A key of a map as a value. -/
def keyV : (u : U) → El u → Value
 | .int k,n=>.int k n
 | .str,s=>.string ⟨List.toArray s⟩
 | _,_=>.nilFunc
/-- Has the type's value the form that u's has: one cell,or several? -/
def oneU : U → Bool
 | .pr _ _=>false
 | .arr _ _=>false
 | _=>true
/-- A value of a map: one cell,or several. -/
def DenE (I : Nat → Prop) (w : World) (u : U) (x : El u) (v : Value) : Prop:=v.cells.size = sz u ∧ ((oneU u = true → v.cells = #[v]) ∧ (oneU u = false → ∃ cs,v = .agg cs)) ∧ DenU I w u x (fun j=>v.cells.toList[j]?)
def MapU (I : Nat → Prop) (w : World) (ku vu : U) : List (El ku × El vu) → List MapEntry → Prop
 | [],es=>es = []
 | p :: l,es=>∃ e r,es = e :: r ∧ e.key = keyV ku p.1 ∧ DenE I w vu p.2 e.val ∧ MapU I w ku vu l r
/-- The entries' births rise,below the clock. -/
def Births (es : List MapEntry) (clock : Nat) : Prop:=(es.map (·.born)).Pairwise (· < ·) ∧ ∀ e,e ∈ es → e.born < clock
/-- Rows of data. -/
def RecsU (I : Nat → Prop) (w : World) (u : U) (xs : List (El u)) (cs : List Value) : Prop:=∀ i x,xs[i]? = some x → DenU I w u x (fun j=>cs[i * sz u + j]?)
def Holds (ρ : Nat → Pl) (I F : Nat → Prop) (w : World) (p : Pl) : Ch → Prop
 | .cells l=>(∀ b,F b ↔ b = p.blk) ∧ ∃ vs T,w.heap[p.blk]? = some (.cells (List.toArray vs) T (0,0)) ∧ DenL ρ I w l vs
 | .row e u xs=>(∀ b,F b ↔ p.hdr.ownBlock = some b) ∧ (∀ b,p.hdr.ownBlock = some b → b = p.blk) ∧ ∃ cs,w.ownsRow 0 e (sz u) p.hdr xs.length cs ∧ RecsU I w u xs cs
 | .map ku vu es=>(∀ b,F b ↔ b = p.blk) ∧ ∃ ents clock,w.heap[p.blk]? = some (.map (List.toArray ents) clock) ∧ MapU I w ku vu es ents ∧ Births ents clock
 | .val u x=>(∀ b,F b ↔ b = p.blk) ∧ ∃ vs T,w.heap[p.blk]? = some (.cells (List.toArray vs) T (0,0)) ∧ vs.length = sz u ∧ DenU I w u x (fun j=>vs[j]?)
 | .obj o=>o.R I F w p
 | .dep d o=>(o (ρ d)).R I F w p
/-! ### which numbers of blocks are named -/
def capsHave (c : Nat) : List Cap → Bool
 | []=>false
 | .p b _ :: l=>Nat.beq b c || capsHave c l
 | .d _ :: l=>capsHave c l
def S1.has (c : Nat) : S1 → Bool
 | .ptr b _=>Nat.beq b c
 | .own b=>Nat.beq b c
 | .rp b _ _ _=>Nat.beq b c
 | .os b _ _ _=>Nat.beq b c
 | .mp b=>Nat.beq b c
 | .clo _ l=>capsHave c l
 | _=>false
def hasL (c : Nat) : List S1 → Bool
 | []=>false
 | s :: l=>s.has c || hasL c l
def SC.has (c : Nat) : SC → Bool
 | .one s=>s.has c
 | .agg l=>hasL c l
 | .dat _ _=>false
def hasCL (c : Nat) : List SC → Bool
 | []=>false
 | s :: l=>s.has c || hasCL c l
def SV.has (c : Nat) : SV → Bool
 | .c x=>x.has c
 | .tup l=>hasCL c l
 | .undef=>false
def Ch.has (c : Nat) : Ch → Bool
 | .cells l=>hasL c l
 | .dep d _=>Nat.beq d c
 | _=>false
section
variable {ρ ρ' : Nat → Pl} {I I' : Nat → Prop} {w w' : World}
theorem DenCaps.mono (he : Ext I w I' w') : ∀ (l : List Cap) (vs : List Value),(∀ c,capsHave c l = true → ρ' c = ρ c) → DenCaps ρ I w l vs → DenCaps ρ' I' w' l vs
 | [],_,_,h=>h
 | .p b o :: l,_,hρ,⟨v,r,e,h1,h2⟩=>⟨v,r,e,(by have e:=hρ b (by simp [capsHave]); simp only [DenCap] at *; rw [e]; exact h1),DenCaps.mono he l r (fun c hc=>hρ c (by simp [capsHave,hc])) h2⟩
 | .d x :: l,_,hρ,⟨v,r,e,h1,h2⟩=>⟨v,r,e,Den.mono he x v h1,DenCaps.mono he l r (fun c hc=>hρ c (by simpa [capsHave] using hc)) h2⟩
/-- ρ' places whatever s names as ρ does. -/
theorem DenS.mono (he : Ext I w I' w') (s : S1) (v : Value) (hρ : ∀ c,s.has c = true → ρ' c = ρ c) (h : DenS ρ I w s v) : DenS ρ' I' w' s v:=by
 cases s with
 | d x=>exact Den.mono he x v h
 | ptr c off =>
   have e:=hρ c (by simp [S1.has,Nat.beq_eq])
   simp only [DenS] at *
   rw [e]
   exact h
 | own c =>
   have e:=hρ c (by simp [S1.has,Nat.beq_eq])
   simp only [DenS] at *
   rw [e]
   exact h
 | el u x off =>
   obtain ⟨b,o,h1,h2,h3⟩:=h
   exact ⟨b,o,h1,(he b h2).1,DenU.mono he u x _ _ (fun j v hv=>cell_ext (he b h2).2 hv) h3⟩
 | rp c s i off =>
   have e:=hρ c (by simp [S1.has,Nat.beq_eq])
   simp only [DenS] at *
   rw [e]
   exact h
 | os c s off n =>
   have e:=hρ c (by simp [S1.has,Nat.beq_eq])
   simp only [DenS] at *
   rw [e]
   exact h
 | mp c =>
   have e:=hρ c (by simp [S1.has,Nat.beq_eq])
   simp only [DenS] at *
   rw [e]
   exact h
 | clo f l=>obtain ⟨vs,e,h⟩:=h; exact ⟨vs,e,DenCaps.mono he l vs hρ h⟩
 | nils=>exact h
 | raw u=>exact h
 | any=>trivial
theorem DenL.mono (he : Ext I w I' w') : ∀ (l : List S1) (vs : List Value),(∀ c,hasL c l = true → ρ' c = ρ c) → DenL ρ I w l vs → DenL ρ' I' w' l vs
 | [],_,_,h=>h
 | s :: l,_,hρ,⟨v,r,e,h1,h2⟩=>⟨v,r,e,DenS.mono he s v (fun c hc=>hρ c (by simp [hasL,hc])) h1,DenL.mono he l r (fun c hc=>hρ c (by simp [hasL,hc])) h2⟩
theorem DenC.mono (he : Ext I w I' w') (s : SC) (v : Value) (hρ : ∀ c,s.has c = true → ρ' c = ρ c) (h : DenC ρ I w s v) : DenC ρ' I' w' s v:=by
 cases s with
 | one s=>exact DenS.mono he s v hρ h
 | agg l=>obtain ⟨vs,e,h⟩:=h; exact ⟨vs,e,DenL.mono he l vs hρ h⟩
 | dat u x=>obtain ⟨vs,e,h1,h2⟩:=h; exact ⟨vs,e,h1,DenU.mono he u x _ _ (fun _ _ h=>h) h2⟩
theorem DenCL.mono (he : Ext I w I' w') : ∀ (l : List SC) (vs : List Value),(∀ c,hasCL c l = true → ρ' c = ρ c) → DenCL ρ I w l vs → DenCL ρ' I' w' l vs
 | [],_,_,h=>h
 | s :: l,_,hρ,⟨v,r,e,h1,h2⟩=>⟨v,r,e,DenC.mono he s v (fun c hc=>hρ c (by simp [hasCL,hc])) h1,DenCL.mono he l r (fun c hc=>hρ c (by simp [hasCL,hc])) h2⟩
theorem DenV.mono (he : Ext I w I' w') (s : SV) (v : Value) (hρ : ∀ c,s.has c = true → ρ' c = ρ c) (h : DenV ρ I w s v) : DenV ρ' I' w' s v:=by
 cases s with
 | c s=>exact DenC.mono he s v hρ h
 | tup l=>obtain ⟨vs,e,h⟩:=h; exact ⟨vs,e,DenCL.mono he l vs hρ h⟩
 | undef=>exact h
theorem RecsU.mono (he : Ext I w I' w') {u : U} {xs : List (El u)} {cs : List Value} (h : RecsU I w u xs cs) : RecsU I' w' u xs cs:=fun i x hx=>DenU.mono he u x _ _ (fun _ _ h=>h) (h i x hx)
theorem DenE.mono (he : Ext I w I' w') {u : U} {x : El u} {v : Value} (h : DenE I w u x v) : DenE I' w' u x v:=⟨h.1,h.2.1,DenU.mono he u x _ _ (fun _ _ h=>h) h.2.2⟩
theorem MapU.mono (he : Ext I w I' w') {ku vu : U} : ∀ {l : List (El ku × El vu)} {es : List MapEntry},MapU I w ku vu l es → MapU I' w' ku vu l es
 | [],_,h=>h
 | _ :: _,_,⟨e,r,h0,h1,h2,h3⟩=>⟨e,r,h0,h1,h2.mono he,h3.mono he⟩
theorem ownsRow_block {e s n : Nat} {v : Value} {cs : List Value} (h : w.ownsRow 0 e s v n cs) (hb : ∀ b,v.ownBlock = some b → w'.heap[b]? = w.heap[b]?) : w'.ownsRow 0 e s v n cs:=by
 refine ⟨h.1,?_⟩
 rcases h.2 with h | ⟨g,cap,cur,hv,h0,hg,r⟩
 · exact .inl h
 · exact .inr ⟨g,cap,cur,hv,h0,(hb g (by rw [hv]; rfl)).trans hg,r⟩
theorem Holds.stable (he : Ext I w I' w') {F : Nat → Prop} (hF : ∀ b,F b → w'.heap[b]? = w.heap[b]?) (hz : w.heap.size ≤ w'.heap.size) {p : Pl} : ∀ (ch : Ch),(∀ c,ch.has c = true → ρ' c = ρ c) → Holds ρ I F w p ch → Holds ρ' I' F w' p ch
 | .cells l,hρ,⟨h1,vs,T,h2,h3⟩=>⟨h1,vs,T,(hF _ ((h1 _).2 rfl)).trans h2,DenL.mono he l vs hρ h3⟩
 | .row e u xs,_,⟨h1,h2,cs,h3,h4⟩=>⟨h1,h2,cs,ownsRow_block h3 fun b hb=>hF b ((h1 b).2 hb),h4.mono he⟩
 | .map ku vu es,_,⟨h1,ents,clock,h2,h3,h4⟩=>⟨h1,ents,clock,(hF _ ((h1 _).2 rfl)).trans h2,h3.mono he,h4⟩
 | .val u x,_,⟨h1,vs,T,h2,h3,h4⟩=>⟨h1,vs,T,(hF _ ((h1 _).2 rfl)).trans h2,h3,DenU.mono he u x _ _ (fun _ _ h=>h) h4⟩
 | .obj o,_,h=>o.stable _ _ _ _ _ _ h he hF hz
 | .dep d o,hρ,h=>by
   have e:=hρ d (by simp [Ch.has])
   simp only [Holds] at *
   rw [e]
   exact (o (ρ d)).stable _ _ _ _ _ _ h he hF hz
end
end Go.Proofs.YteoamepgonpdlaaGreat
/-
 States: what the slots have,and what the blocks of the call's own are. When a frame and a world are as a state says; the steps from one to the next.
-/
set_option linter.unusedVariables false
set_option linter.unusedSimpArgs false
namespace Go.Proofs.YteoamepgonpdlaaGreat
open Go.RowKit
abbrev KL:=List (Nat × SV)
abbrev BL:=List (Nat × Ch)
def look : KL → Nat → SV
 | [],_=>.c (.one .any)
 | (t,v) :: K,s=>match Nat.beq t s with
   | true=>v
   | false=>look K s
def lookB : BL → Nat → Option Ch
 | [],_=>none
 | (t,v) :: B,s=>match Nat.beq t s with
   | true=>some v
   | false=>lookB B s
/-- A block is given up. -/
def dropB : BL → Nat → BL
 | [],_=>[]
 | (t,v) :: B,s=>match Nat.beq t s with
   | true=>dropB B s
   | false=>(t,v) :: dropB B s
theorem lookB_dropB (B : BL) (c d : Nat) : lookB (dropB B c) d = if c = d then none else lookB B d:=by
 induction B with
 | nil=>simp [dropB,lookB]
 | cons x B ih =>
   obtain ⟨t,v⟩:=x
   unfold dropB
   by_cases h : Nat.beq t c = true
   · have e:=Nat.eq_of_beq_eq_true h
     subst e
     rw [h]
     simp only [ih]
     split
     · rfl
     · rename_i hne
       simp only [lookB]
       rw [show Nat.beq t d = false by rw [Bool.eq_false_iff]; intro h; exact hne (Nat.eq_of_beq_eq_true h)]
   · rw [Bool.not_eq_true] at h
     rw [h]
     simp only [lookB]
     by_cases h2 : Nat.beq t d = true
     · have e:=Nat.eq_of_beq_eq_true h2
       subst e
       rw [if_neg (fun e=>by subst e; simp at h)]
       rw [h2]
     · rw [Bool.not_eq_true] at h2
       rw [h2]
       simpa using ih
theorem lookB_cons (B : BL) (c : Nat) (ch : Ch) (d : Nat) : lookB ((c,ch) :: B) d = if c = d then some ch else lookB B d:=by
 simp only [lookB]
 by_cases h : c = d
 · subst h; simp
 · rw [if_neg h,show Nat.beq c d = false by rw [Bool.eq_false_iff]; intro e; exact h (Nat.eq_of_beq_eq_true e)]
theorem look_cons (K : KL) (c : Nat) (v : SV) (d : Nat) : look ((c,v) :: K) d = if c = d then v else look K d:=by
 rw [look.eq_def]
 by_cases h : c = d
 · subst h; simp
 · simp only [if_neg h,show Nat.beq c d = false by rw [Bool.eq_false_iff]; intro e; exact h (Nat.eq_of_beq_eq_true e)]
/-- The slot s has v. -/
def At (a : Act) (s : Nat) (v : Value) : Prop:=a.tmps.getD s undef = v
theorem At.eval {a : Act} {s : Nat} {v : Value} (h : At a s v) : a.eval (.tmp s) = v:=h
theorem at_put_same {a : Act} {d : Nat} {v : Value} (h : d < a.tmps.size) : At (a.put (some d) v) d v:=by simp [At,Act.put,h]
theorem at_put_other {a : Act} {d s : Nat} {v : Value} (h : d ≠ s) : a.tmps.getD s undef = (a.put (some d) v).tmps.getD s undef:=by
 simp [Act.put,Array.getElem?_setIfInBounds_ne h]
theorem put_size {a : Act} {d : Option Nat} {v : Value} : (a.put d v).tmps.size = a.tmps.size:=by cases d <;> simp [Act.put]
theorem put_defers {a : Act} {d : Option Nat} {v : Value} : (a.put d v).defers = a.defers:=by cases d <;> simp [Act.put]
/-- Where a call begins: its world,the data that it may look into,the blocks that it was given,where they lie. -/
structure Ctx where
 w0 : World
 I0 : Nat → Prop
 F0 : Nat → Prop
 ρ0 : Nat → Pl
 ds : List Nat
/-- The mark that a range over a function leaves: the block for its rounds' deferred calls. -/
def markD (D : Nat) : Deferred:={ target:=.collected D,args:=#[] }
/-- The blocks that nobody writes. -/
def Imm (C : Ctx) (B : BL) (F : Nat → Nat → Prop) (w : World) : Nat → Prop:=fun b =>
 b < w.heap.size ∧ (C.I0 b ∨ C.F0 b ∨ C.w0.heap.size ≤ b ∧ b ∉ C.ds) ∧ ∀ c ch,lookB B c = some ch → ¬ F c b
structure Mem (ids : List Nat) (C : Ctx) (B : BL) (ρ : Nat → Pl) (F : Nat → Nat → Prop) (w : World) : Prop where
 fr : Fr C.F0 C.w0 w
 holds : ∀ c ch,lookB B c = some ch → Holds ρ (Imm C B F w) (F c) w (ρ c) ch
 own : ∀ c ch,lookB B c = some ch → ∀ b,F c b → b < w.heap.size ∧ (C.F0 b ∨ C.w0.heap.size ≤ b ∧ b ∉ C.ds)
 disj : ∀ c c' ch ch' b,lookB B c = some ch → lookB B c' = some ch' → c ≠ c' → F c b → ¬ F c' b
 keep : ∀ c,c ∈ ids → ρ c = C.ρ0 c
 marks : C.ds.Nodup ∧ (∀ b,C.I0 b ∨ C.F0 b → b < C.w0.heap.size) ∧ ∀ D,D ∈ C.ds → D < w.heap.size ∧ w.heap[D]? = some (.deferred (some [])) ∧ C.w0.heap.size ≤ D
def Slots (K : KL) (ρ : Nat → Pl) (I : Nat → Prop) (a : Act) (w : World) : Prop:=∀ s,DenV ρ I w (look K s) (a.tmps.getD s undef)
def Sat (N : Nat) (ids : List Nat) (C : Ctx) (K : KL) (B : BL) (a : Act) (w : World) : Prop :=
 a.tmps.size = N ∧ a.defers = C.ds.map markD ∧ ∃ ρ F,Mem ids C B ρ F w ∧ Slots K ρ (Imm C B F w) a w
/-- A block that is new now. -/
theorem Mem.fresh {ids : List Nat} {C : Ctx} {B : BL} {ρ : Nat → Pl} {F : Nat → Nat → Prop} {w : World} (h : Mem ids C B ρ F w) {b : Nat} (hb : w.heap.size ≤ b) : C.w0.heap.size ≤ b ∧ b ∉ C.ds :=
 ⟨Nat.le_trans h.fr.size hb,fun hd=>by have:=(h.marks.2.2 b hd).1; omega⟩
/-- The step from one memory to the next: the blocks whose numbers are of M are given up,turned,or made; ρ turns for those of Nw alone,which nothing else names. -/
theorem Mem.step {ids : List Nat} {C : Ctx} {B B' : BL} {ρ ρ' : Nat → Pl} {F F' : Nat → Nat → Prop} {w w' : World} (h : Mem ids C B ρ F w) (M Nw : Nat → Prop)
   (hfr : Fr (fun b=>∃ c ch,lookB B c = some ch ∧ M c ∧ F c b) w w')
   (old : ∀ c ch,lookB B' c = some ch → ¬ M c → lookB B c = some ch)
   (hρ : ∀ c,¬ Nw c → ρ' c = ρ c) (hF : ∀ c,¬ M c → F' c = F c) (hids : ∀ c,c ∈ ids → ¬ Nw c)
   (hnw : ∀ c,Nw c → M c)
   (named : ∀ c ch,lookB B c = some ch → ¬ M c → ∀ d,ch.has d = true → ¬ Nw d)
   (new : ∀ c ch,lookB B' c = some ch → M c → Ext (Imm C B F w) w (Imm C B' F' w') w' → Holds ρ' (Imm C B' F' w') (F' c) w' (ρ' c) ch)
   (newF : ∀ c ch,lookB B' c = some ch → M c → ∀ b,F' c b → b < w'.heap.size ∧ ((∃ c0 ch0,lookB B c0 = some ch0 ∧ M c0 ∧ F c0 b) ∨ w.heap.size ≤ b))
   (newD : ∀ c c' ch ch' b,lookB B' c = some ch → lookB B' c' = some ch' → M c → M c' → c ≠ c' → F' c b → ¬ F' c' b) :
   Mem ids C B' ρ' F' w' ∧ Ext (Imm C B F w) w (Imm C B' F' w') w':=by
 have hz:=h.fr.size
 have hext : Ext (Imm C B F w) w (Imm C B' F' w') w':=by
   rintro b ⟨h1,h2,h3⟩
   refine ⟨⟨Nat.lt_of_lt_of_le h1 hfr.size,h2,fun c ch hc=>?_⟩,hfr.block b h1 ?_⟩
   · by_cases hM : M c
     · intro hb
       obtain ⟨_,hb'⟩:=newF c ch hc hM b hb
       rcases hb' with ⟨c0,ch0,e1,_,e2⟩ | hb'
       · exact h3 c0 ch0 e1 e2
       · omega
     · rw [hF c hM]
       exact h3 c ch (old c ch hc hM)
   · rintro ⟨c,ch,e1,_,e2⟩
     exact h3 c ch e1 e2
 have hframe : ∀ c ch,lookB B c = some ch → ¬ M c → ∀ b,F c b → w'.heap[b]? = w.heap[b]?:=fun c ch hc hM b hb =>
   hfr.block b (h.own c ch hc b hb).1 (by
     rintro ⟨c0,ch0,e1,e2,e3⟩
     exact h.disj c c0 ch ch0 b hc e1 (fun e=>hM (e ▸ e2)) hb e3)
 refine ⟨⟨?_,?_,?_,?_,?_,?_⟩,hext⟩
 · refine h.fr.trans hfr ?_
   rintro b hb ⟨c,ch,e1,_,e2⟩
   rcases (h.own c ch e1 b e2).2 with h' | h'
   · exact h'
   · have:=h'.1; omega
 · intro c ch hc
   by_cases hM : M c
   · exact new c ch hc hM hext
   · have ho:=old c ch hc hM
     rw [hF c hM,hρ c (fun hn=>hM (hnw c hn))]
     exact Holds.stable hext (hframe c ch ho hM) hfr.size ch (fun d hd=>hρ d (named c ch ho hM d hd)) (h.holds c ch ho)
 · intro c ch hc b hb
   by_cases hM : M c
   · obtain ⟨h1,h2⟩:=newF c ch hc hM b hb
     refine ⟨h1,?_⟩
     rcases h2 with ⟨c0,ch0,e1,_,e2⟩ | h2
     · exact (h.own c0 ch0 e1 b e2).2
     · exact .inr (h.fresh h2)
   · rw [hF c hM] at hb
     obtain ⟨h1,h2⟩:=h.own c ch (old c ch hc hM) b hb
     exact ⟨Nat.lt_of_lt_of_le h1 hfr.size,h2⟩
 · intro c c' ch ch' b hc hc' hne hb hb'
   by_cases hM : M c
   · by_cases hM' : M c'
     · exact newD c c' ch ch' b hc hc' hM hM' hne hb hb'
     · rw [hF c' hM'] at hb'
       have ho':=old c' ch' hc' hM'
       rcases (newF c ch hc hM b hb).2 with ⟨c0,ch0,e1,e3,e2⟩ | h2
       · exact h.disj c0 c' ch0 ch' b e1 ho' (fun e=>hM' (e ▸ e3)) e2 hb'
       · have:=(h.own c' ch' ho' b hb').1; omega
   · rw [hF c hM] at hb
     have ho:=old c ch hc hM
     by_cases hM' : M c'
     · rcases (newF c' ch' hc' hM' b hb').2 with ⟨c0,ch0,e1,e3,e2⟩ | h2
       · exact h.disj c0 c ch0 ch b e1 ho (fun e=>hM (e ▸ e3)) e2 hb
       · have:=(h.own c ch ho b hb).1; omega
     · rw [hF c' hM'] at hb'
       exact h.disj c c' ch ch' b ho (old c' ch' hc' hM') hne hb hb'
 · intro c hc
   rw [hρ c (hids c hc)]
   exact h.keep c hc
 · refine ⟨h.marks.1,h.marks.2.1,fun D hD=>?_⟩
   obtain ⟨g1,g2,g3⟩:=h.marks.2.2 D hD
   refine ⟨Nat.lt_of_lt_of_le g1 hfr.size,(hfr.block D g1 ?_).trans g2,g3⟩
   rintro ⟨c,ch,e1,_,e2⟩
   rcases (h.own c ch e1 D e2).2 with h' | h'
   · have:=h.marks.2.1 D (.inr h'); omega
   · exact h'.2 hD
/-- Old blocks stay as they are. -/
theorem Mem.below {ids : List Nat} {C : Ctx} {B : BL} {ρ : Nat → Pl} {F : Nat → Nat → Prop} {w w' : World} (h : Mem ids C B ρ F w) (hb : Below w.heap.size w w') :
   Mem ids C B ρ F w' ∧ Ext (Imm C B F w) w (Imm C B F w') w' :=
 h.step (fun _=>False) (fun _=>False) (Fr.of_below hb) (fun _ _ h _=>h) (fun _ _=>rfl) (fun _ _=>rfl) (fun _ _ h=>h) (fun _ h=>h) (fun _ _ _ _ _ _ h=>h) (fun _ _ _ h=>h.elim) (fun _ _ _ h=>h.elim) (fun _ _ _ _ _ _ _ h=>h.elim)
theorem Slots.mono {K : KL} {ρ ρ' : Nat → Pl} {I I' : Nat → Prop} {a : Act} {w w' : World} (h : Slots K ρ I a w) (he : Ext I w I' w') (hρ : ∀ s c,(look K s).has c = true → ρ' c = ρ c) : Slots K ρ' I' a w' :=
 fun s=>DenV.mono he _ _ (hρ s) (h s)
theorem Slots.put {K : KL} {ρ : Nat → Pl} {I : Nat → Prop} {a : Act} {w : World} (h : Slots K ρ I a w) {d : Nat} {v : SV} {x : Value} (hd : d < a.tmps.size) (hv : DenV ρ I w v x) : Slots ((d,v) :: K) ρ I (a.put (some d) x) w:=fun s=>by
 rw [look_cons]
 by_cases e : d = s
 · subst e
   rw [if_pos rfl,show (a.put (some d) x).tmps.getD d undef = x from at_put_same hd]
   exact hv
 · rw [if_neg e,← at_put_other e]
   exact h s
def putK (d : Option Nat) (v : SV) (K : KL) : KL:=match d with
 | some d=>(d,v) :: K
 | none=>K
theorem Slots.putO {K : KL} {ρ : Nat → Pl} {I : Nat → Prop} {a : Act} {w : World} (h : Slots K ρ I a w) {d : Option Nat} {v : SV} {x : Value} (hd : ∀ e,d = some e → e < a.tmps.size) (hv : DenV ρ I w v x) : Slots (putK d v K) ρ I (a.put d x) w:=by
 cases d with
 | none=>exact h
 | some d=>exact h.put (hd d rfl) hv
/-! ### what a slot or a constant gives -/
def constS : Value → S1
 | .int k n=>.d (.int k n)
 | .bool b=>.d (.lit b)
 | .string s=>.d (.str s.data.toList)
 | .slice none 0 0=>.nils
 | v=>.raw v
theorem constS_den (ρ : Nat → Pl) (I : Nat → Prop) (w : World) (v : Value) : DenS ρ I w (constS v) v:=by
 unfold constS
 split <;> simp [DenS,Den]
def constV : Value → SV
 | .agg cs=>.c (.agg (cs.toList.map constS))
 | v=>.c (.one (constS v))
theorem denL_const (ρ : Nat → Pl) (I : Nat → Prop) (w : World) : ∀ vs : List Value,DenL ρ I w (vs.map constS) vs
 | []=>rfl
 | v :: vs=>⟨v,vs,rfl,constS_den ρ I w v,denL_const ρ I w vs⟩
theorem constV_den (ρ : Nat → Pl) (I : Nat → Prop) (w : World) (v : Value) : DenV ρ I w (constV v) v:=by
 unfold constV
 split
 · rename_i cs
   exact ⟨cs.toList,by simp,denL_const ρ I w _⟩
 · exact constS_den ρ I w v
def opv (K : KL) : Operand → SV
 | .tmp t=>look K t
 | .const v=>constV v
 | .func f=>.c (.one (.clo f []))
 | .global g=>.c (.one (.raw (.pointer (some ⟨g,0,none⟩))))
theorem Slots.get {K : KL} {ρ : Nat → Pl} {I : Nat → Prop} {a : Act} {w : World} (h : Slots K ρ I a w) (x : Operand) : DenV ρ I w (opv K x) (a.eval x):=by
 cases x with
 | tmp t=>exact h t
 | const v=>exact constV_den ρ I w v
 | func f=>exact ⟨[],rfl,rfl⟩
 | global g=>rfl
end Go.Proofs.YteoamepgonpdlaaGreat
/-!
  Maps of data: looked up, written, deleted from: what the machine does.
-/
namespace Go.Proofs.YteoamepgonpdlaaGreat
set_option linter.unusedVariables false
set_option linter.unusedSimpArgs false
open Go.RowKit
/-- Are two keys the same? -/
def eqI (a b : Int) : Bool:=decide (a = b)
def eqS (a b : List UInt8) : Bool:=decide (a = b)
def eqKey : (u : U) → El u → El u → Bool
 | .int _,a,b=>eqI a b
 | .str,a,b=>eqS a b
 | _,_,_=>false
def mget {ku vu : U} : List (El ku × El vu) → El ku → Option (El vu)
 | [],_=>none
 | p :: l,k=>match eqKey ku k p.1 with
   | true=>some p.2
   | false=>mget l k
def mput {ku vu : U} : List (El ku × El vu) → El ku → El vu → List (El ku × El vu)
 | [],k,x=>[(k,x)]
 | p :: l,k,x=>match eqKey ku k p.1 with
   | true=>(k,x) :: l
   | false=>p :: mput l k x
def mdel {ku vu : U} : List (El ku × El vu) → El ku → List (El ku × El vu)
 | [],_=>[]
 | p :: l,k=>match eqKey ku k p.1 with
   | true=>l
   | false=>p :: mdel l k
/-- The kinds of keys. -/
def keyD : U → TypeDesc → Bool
 | .int k,.int k'=>k == k'
 | .str,.string=>true
 | _,_=>false
section
variable {P : Program} {I : Nat → Prop} {w : World} {ku vu : U}
theorem keyD_isKey {d : TypeDesc} (hd : keyD ku d = true) (a : El ku) : MapKept.IsKey d (keyV ku a):=by
 cases ku <;> cases d <;> simp [keyD] at hd
 · subst hd; simp [keyV,MapKept.IsKey]
 · simp [keyV,MapKept.IsKey]
theorem keyV_inj {d : TypeDesc} (hd : keyD ku d = true) (a b : El ku) : keyV ku a = keyV ku b ↔ eqKey ku a b = true:=by
 cases ku <;> cases d <;> simp [keyD] at hd
 · have : ∀ (k : IntKind) (a b : Int),Value.int k a = Value.int k b ↔ eqI a b = true:=fun k a b=>by simp [eqI]
   exact this _ a b
 · have : ∀ (a b : List UInt8),Value.string ⟨List.toArray a⟩ = Value.string ⟨List.toArray b⟩ ↔ eqS a b = true:=fun a b=>by simp [eqS]
   exact this a b
theorem mapU_length : ∀ {l : List (El ku × El vu)} {es : List MapEntry},MapU I w ku vu l es → es.length = l.length
 | [],_,h=>by rw [show _ = [] from h]; rfl
 | p :: l,_,⟨e,r,h,_,_,h3⟩=>by rw [h,List.length_cons,List.length_cons,mapU_length h3]
/-- What is found. -/
theorem findNow_map {d : TypeDesc} (hd : keyD ku d = true) (k : El ku) : ∀ (l : List (El ku × El vu)) (es : List MapEntry) (i : Nat),MapU I w ku vu l es →
   (Instr.findNow d (keyV ku k) es i = some none ∧ mget l k = none ∧ (∀ x,mput l k x = l ++ [(k,x)]) ∧ mdel l k = l) ∨
   ∃ (j : Nat) (x : El vu) (e : MapEntry),Instr.findNow d (keyV ku k) es i = some (some (i + j,e.val)) ∧ mget l k = some x ∧ es[j]? = some e ∧ e.key = keyV ku k ∧ DenE I w vu x e.val ∧ (∀ y,mput l k y = l.set j (k,y)) ∧ mdel l k = l.eraseIdx j
 | [],_,i,h=>by
   rw [show _ = [] from h]
   exact .inl ⟨rfl,rfl,fun _=>rfl,rfl⟩
 | p :: l,_,i,⟨e,r,h,h1,h2,h3⟩=>by
   subst h
   obtain ⟨b,hb,hiff⟩:=MapKept.sameNow_of_keys (keyD_isKey hd k) (keyD_isKey hd p.1)
   rw [← h1] at hb
   cases hk : eqKey ku k p.1 with
   | true =>
     have hbt : b = true:=hiff.2 ((keyV_inj hd k p.1).2 hk)
     subst hbt
     refine .inr ⟨0,p.2,e,by simp [Instr.findNow,hb],by simp [mget,hk],rfl,by rw [h1]; exact ((keyV_inj hd k p.1).2 hk).symm,h2,fun y=>by simp [mput,hk],by simp [mdel,hk]⟩
   | false =>
     have hbf : b = false:=by
       cases b with
       | false=>rfl
       | true=>have:=(keyV_inj hd k p.1).1 (hiff.1 rfl); rw [hk] at this; cases this
     subst hbf
     rcases findNow_map hd k l r (i + 1) h3 with ⟨a1,a2,a3,a4⟩ | ⟨j,x,e',a1,a2,a3,a4,a5,a6,a7⟩
     · exact .inl ⟨by simp [Instr.findNow,hb,a1],by simp [mget,hk,a2],fun y=>by simp [mput,hk,a3],by simp [mdel,hk,a4]⟩
     · exact .inr ⟨j + 1,x,e',by simp [Instr.findNow,hb,a1]; omega,by simp [mget,hk,a2],by simpa using a3,a4,a5,fun y=>by simp [mput,hk,a6],by simp [mdel,hk,a7]⟩
theorem lookup_run {t kt et : TypeId} {d : TypeDesc} (ht : P.underlying t = some (.map kt et)) (hk : P.underlying kt = some d) (hd : keyD ku d = true) {b : Nat} {ents : List MapEntry} {clock : Nat} (hb : w.heap[b]? = some (.map (List.toArray ents) clock))
   {l : List (El ku × El vu)} (hm : MapU I w ku vu l ents) {z : Value} (hz : (zeroValue et).run P w = .ok z w) (hzd : DenE I w vu (dflt vu) z) (k : El ku) (c : Bool) :
   ∃ v,(Instr.lookup t (.map (some b)) (keyV ku k) c).run P w = .ok (if c then .tuple #[v,.bool (mget l k).isSome] else v) w ∧ DenE I w vu ((mget l k).getD (dflt vu)) v:=by
 have hc:=fun e=>MapKept.run_checkKey (P:=P) (w:=w) hk (keyD_isKey hd k) e 9999
 rcases findNow_map (I:=I) (w:=w) hd k l ents 0 hm with ⟨a1,a2,_⟩ | ⟨j,x,e,a1,a2,_,_,a5,_⟩
 · refine ⟨z,?_,by rw [a2]; exact hzd⟩
   have hf:=MapKept.run_findKey (P:=P) (w:=w) hk a1
   rw [a2]
   simp [Instr.lookup,run_underlying ht,MapKept.run_getObj_map hb,hc,hf,hz,Result.andThen]
 · refine ⟨e.val,?_,by rw [a2]; exact a5⟩
   have hf:=MapKept.run_findKey (P:=P) (w:=w) hk a1
   rw [a2]
   simp [Instr.lookup,run_underlying ht,MapKept.run_getObj_map hb,hc,hf,Result.andThen]
/-! ### written,deleted from -/
theorem mapU_append : ∀ {l : List (El ku × El vu)} {es : List MapEntry},MapU I w ku vu l es → ∀ {k : El ku} {x : El vu} {e : MapEntry},e.key = keyV ku k → DenE I w vu x e.val → MapU I w ku vu (l ++ [(k,x)]) (es ++ [e])
 | [],_,h,k,x,e,h1,h2=>by rw [show _ = [] from h]; exact ⟨e,[],rfl,h1,h2,rfl⟩
 | p :: l,_,⟨e',r,h,a1,a2,a3⟩,k,x,e,h1,h2=>by rw [h]; exact ⟨e',r ++ [e],rfl,a1,a2,mapU_append a3 h1 h2⟩
theorem mapU_set : ∀ {l : List (El ku × El vu)} {es : List MapEntry},MapU I w ku vu l es → ∀ {k : El ku} {x : El vu} {e : MapEntry} (j : Nat),e.key = keyV ku k → DenE I w vu x e.val → MapU I w ku vu (l.set j (k,x)) (es.set j e)
 | [],_,h,k,x,e,j,h1,h2=>by rw [show _ = [] from h]; rfl
 | p :: l,_,⟨e',r,h,a1,a2,a3⟩,k,x,e,0,h1,h2=>by rw [h]; exact ⟨e,r,rfl,h1,h2,a3⟩
 | p :: l,_,⟨e',r,h,a1,a2,a3⟩,k,x,e,j + 1,h1,h2=>by rw [h]; exact ⟨e',r.set j e,rfl,a1,a2,mapU_set a3 j h1 h2⟩
theorem mapU_erase : ∀ {l : List (El ku × El vu)} {es : List MapEntry},MapU I w ku vu l es → ∀ (j : Nat),MapU I w ku vu (l.eraseIdx j) (es.eraseIdx j)
 | [],_,h,j=>by rw [show _ = [] from h]; rfl
 | p :: l,_,⟨e',r,h,a1,a2,a3⟩,0=>by rw [h]; exact a3
 | p :: l,_,⟨e',r,h,a1,a2,a3⟩,j + 1=>by rw [h]; exact ⟨e',r.eraseIdx j,rfl,a1,a2,mapU_erase a3 j⟩
theorem births_append {es : List MapEntry} {c : Nat} (h : Births es c) (key val : Value) : Births (es ++ [⟨key,val,c⟩]) (c + 1):=by
 refine ⟨?_,fun e he=>?_⟩
 · rw [List.map_append,List.pairwise_append]
   refine ⟨h.1,by simp,fun a ha b hb=>?_⟩
   obtain ⟨e,he,rfl⟩:=List.mem_map.1 ha
   simp only [List.map_cons,List.map_nil,List.mem_singleton] at hb
   subst hb
   exact h.2 e he
 · rcases List.mem_append.1 he with he | he
   · have:=h.2 e he; omega
   · simp only [List.mem_singleton] at he; subst he; simp
theorem births_set {es : List MapEntry} {c : Nat} (h : Births es c) {j : Nat} {e0 e : MapEntry} (hj : es[j]? = some e0) (hb : e.born = e0.born) : Births (es.set j e) c:=by
 have hm : (es.set j e).map (·.born) = es.map (·.born):=by
   rw [List.map_set]
   refine List.ext_getElem? fun i=>?_
   rw [List.getElem?_set]
   split
   · rename_i hi
     subst hi
     have:=(List.getElem?_eq_some_iff.1 hj).1
     rw [if_pos (by simpa using this),List.getElem?_map,hj,hb]
     rfl
   · rfl
 refine ⟨by rw [hm]; exact h.1,fun x hx=>?_⟩
 have h1 : x.born ∈ (es.set j e).map (·.born):=List.mem_map_of_mem hx
 rw [hm] at h1
 obtain ⟨y,hy,hyx⟩:=List.mem_map.1 h1
 rw [← hyx]
 exact h.2 y hy
theorem births_erase {es : List MapEntry} {c : Nat} (h : Births es c) (j : Nat) : Births (es.eraseIdx j) c :=
 ⟨h.1.sublist ((List.eraseIdx_sublist es j).map _),fun e he=>h.2 e ((List.eraseIdx_sublist es j).subset he)⟩
theorem sameBits_key (a : El ku) {d : TypeDesc} (hd : keyD ku d = true) (n : Nat) : Instr.sameBits (n + 1) (keyV ku a) (keyV ku a) = true:=by
 cases ku <;> cases d <;> simp [keyD] at hd
 · have : ∀ (k : IntKind) (a : Int),Instr.sameBits (n + 1) (.int k a) (.int k a) = true:=fun k a=>by simp [Instr.sameBits]
   exact this _ a
 · simp only [keyV,Instr.sameBits]
   exact (MapKept.bytes_beq _ _).2 rfl
theorem update_run {t kt et : TypeId} {d : TypeDesc} (ht : P.underlying t = some (.map kt et)) (hk : P.underlying kt = some d) (hd : keyD ku d = true) {b : Nat} {ents : List MapEntry} {clock : Nat} (hb : w.heap[b]? = some (.map (List.toArray ents) clock))
   {l : List (El ku × El vu)} (hm : MapU I w ku vu l ents) (hB : Births ents clock) (k : El ku) {x : El vu} {v : Value} (hv : DenE I w vu x v) :
   ∃ es' clock',(Instr.mapUpdate t (.map (some b)) (keyV ku k) v).run P w = .ok () { w with heap:=w.heap.setIfInBounds b (.map (List.toArray es') clock') } ∧ MapU I w ku vu (mput l k x) es' ∧ Births es' clock':=by
 have hc:=fun e=>MapKept.run_checkKey (P:=P) (w:=w) hk (keyD_isKey hd k) e 9999
 have hst:=fun o=>MapKept.run_setObj_map (P:=P) o hb
 rcases findNow_map (I:=I) (w:=w) hd k l ents 0 hm with ⟨a1,a2,a3,_⟩ | ⟨j,y,e,a1,a2,a3,a4,a5,a6,_⟩
 · have hf:=MapKept.run_findKey (P:=P) (w:=w) hk a1
   refine ⟨ents ++ [⟨keyV ku k,v,clock⟩],clock + 1,?_,by rw [a3]; exact mapU_append hm rfl hv,births_append hB _ _⟩
   simp [Instr.mapUpdate,run_underlying ht,MapKept.run_getObj_map hb,hc,hf,hst,Result.andThen]
 · have hf:=MapKept.run_findKey (P:=P) (w:=w) hk a1
   have hjl:=(List.getElem?_eq_some_iff.1 a3).1
   refine ⟨ents.set j ⟨keyV ku k,v,e.born⟩,clock,?_,by rw [a6]; exact mapU_set hm j rfl hv,births_set hB a3 rfl⟩
   have hmod : ents.modify j (fun e'=>{ e' with key:=keyV ku k,val:=v }) = ents.set j ⟨keyV ku k,v,e.born⟩:=by
     refine List.ext_getElem? fun i=>?_
     rw [List.getElem?_modify,List.getElem?_set]
     by_cases hij : j = i
     · subst hij
       have he:=(List.getElem?_eq_some_iff.1 a3).2
       simp [hjl,he]
     · simp [hij]
   simp [Instr.mapUpdate,run_underlying ht,MapKept.run_getObj_map hb,hc,hf,hst,Result.andThen,a3,a4,Instr.keyThatStays,sameBits_key k hd,hmod]
theorem delete_run {t kt et ty : TypeId} {d : TypeDesc} (ht : P.underlying t = some (.map kt et)) (hk : P.underlying kt = some d) (hd : keyD ku d = true) {b : Nat} {ents : List MapEntry} {clock : Nat} (hb : w.heap[b]? = some (.map (List.toArray ents) clock))
   {l : List (El ku × El vu)} (hm : MapU I w ku vu l ents) (hB : Births ents clock) (k : El ku) (kt' : TypeId) :
   ∃ es',(Builtin.delete_ #[t,kt'] ty #[.map (some b),keyV ku k]).run P w = .ok (.tuple #[]) { w with heap:=w.heap.setIfInBounds b (.map (List.toArray es') clock) } ∧ MapU I w ku vu (mdel l k) es' ∧ Births es' clock:=by
 have hc:=fun e=>MapKept.run_checkKey (P:=P) (w:=w) hk (keyD_isKey hd k) e 9999
 have hst:=fun o=>MapKept.run_setObj_map (P:=P) o hb
 rcases findNow_map (I:=I) (w:=w) hd k l ents 0 hm with ⟨a1,a2,_,a3⟩ | ⟨j,y,e,a1,a2,a3,a4,a5,_,a6⟩
 · have hf:=MapKept.run_findKey (P:=P) (w:=w) hk a1
   refine ⟨ents,?_,by rw [a3]; exact hm,hB⟩
   simp [Builtin.delete_,run_underlying ht,MapKept.run_getObj_map hb,hc,hf,hst,Result.andThen]
 · have hf:=MapKept.run_findKey (P:=P) (w:=w) hk a1
   have hjl:=(List.getElem?_eq_some_iff.1 a3).1
   refine ⟨ents.eraseIdx j,?_,by rw [a6]; exact mapU_erase hm j,births_erase hB j⟩
   have her : (List.toArray ents).eraseIdxIfInBounds j = List.toArray (ents.eraseIdx j):=by
     apply Array.ext'
     unfold Array.eraseIdxIfInBounds
     rw [dif_pos (by simpa using hjl)]
     simp
   simp [Builtin.delete_,run_underlying ht,MapKept.run_getObj_map hb,hc,hf,hst,Result.andThen,her]
theorem make_run {t : TypeId} : (Instr.makeMap t none).run P w = .ok (.map (some w.heap.size)) (w.alloc (.map #[] 0)):=by
 simp only [Instr.makeMap,Sem.run_bind,run_newObj_alloc,Result.andThen,Sem.run_pure]
end
end Go.Proofs.YteoamepgonpdlaaGreat
