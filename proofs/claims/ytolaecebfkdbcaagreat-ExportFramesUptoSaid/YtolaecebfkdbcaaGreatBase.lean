/-
  Words for memory that all proofs of this seat share: frames by block sets, slices of cells, bytes. No program in sight.
-/
import Derived.WalkKit
import Derived.WalkSpells
import Derived.WalkLawsBesides
import Derived.BigQuiet
import Derived.Deep.QuietTactic
import Derived.Deep.RegionHeld3
import Derived.Deep.AppendLies
import Derived.Deep.DrawnRows
import Derived.Maps.AppendAt
import Derived.Laws.CopyOwn
import Derived.Lib.ConvBytes
import Derived.Lib.Hide
import Derived.RangeFuncRecord
import Derived.OrdersIn
import Derived.TacticsIn
import Derived.Sort.LoopGhostIn
namespace Go.Proofs.YtolaecebfkdbcaaGreat
open Go.RowKit

/-- What stood and is not in S is as it was. -/
structure Fr (S : Nat → Prop) (w w' : World) : Prop where
  os : w'.os = w.os
  tape : w'.tape = w.tape
  output : w'.output = w.output
  size : w.heap.size ≤ w'.heap.size
  block : ∀ k, k < w.heap.size → ¬ S k → w'.heap[k]? = w.heap[k]?

theorem Fr.refl (S : Nat → Prop) (w : World) : Fr S w w := ⟨rfl, rfl, rfl, Nat.le_refl _, fun _ _ _ => rfl⟩
theorem Fr.trans {S : Nat → Prop} {a b c : World} (h : Fr S a b) {S' : Nat → Prop} (k : Fr S' b c) (hs : ∀ i, i < a.heap.size → S' i → S i) : Fr S a c :=
  ⟨k.os.trans h.os, k.tape.trans h.tape, k.output.trans h.output, Nat.le_trans h.size k.size,
    fun i hi hn => (k.block i (Nat.lt_of_lt_of_le hi h.size) (fun x => hn (hs i hi x))).trans (h.block i hi hn)⟩
theorem Fr.mono {S S' : Nat → Prop} {w w' : World} (h : Fr S w w') (hs : ∀ i, i < w.heap.size → S i → S' i) : Fr S' w w' :=
  ⟨h.os, h.tape, h.output, h.size, fun i hi hn => h.block i hi (fun x => hn (hs i hi x))⟩
theorem Fr.of_below {S : Nat → Prop} {w w' : World} (h : Below w.heap.size w w') : Fr S w w' :=
  ⟨h.os, h.tape, h.output, h.size, fun i hi _ => h.block i hi⟩
theorem Fr.below {S : Nat → Prop} {B : Nat} {w w' : World} (h : Fr S w w') (hB : B ≤ w.heap.size) (hs : ∀ i, i < B → ¬ S i) : Below B w w' :=
  ⟨h.os, h.tape, h.output, h.size, fun i hi => h.block i (by omega) (hs i hi)⟩
theorem Fr.cell {S : Nat → Prop} {w w' : World} (h : Fr S w w') {p : Addr} {v : Value} (hp : w.cell? p = some v) (hs : ¬ S p.block) : w'.cell? p = some v :=
  (World.cell?_of_block (h.block p.block (World.block_lt_of_cell? w p hp) hs)).trans hp

theorem below_drewN {B : Nat} {a w : World} (h : Below B a w) (n : Nat) : Below B a (w.drewN n) := ⟨h.os, h.tape, h.output, h.size, h.block⟩

/-- All old cells and marks read as before: two rules for the walk. -/
theorem bcell {W w1 : World} (hb : Below W.heap.size W w1) : (∀ b o, b < W.heap.size → w1.cell? ⟨b, o, none⟩ = W.cell? ⟨b, o, none⟩) ∧ (∀ b o, b < W.heap.size → w1.frozen? ⟨b, o, none⟩ = W.frozen? ⟨b, o, none⟩) :=
  ⟨fun b o h => hb.cell (p := ⟨b, o, none⟩) h, fun b o h => hb.frozen (p := ⟨b, o, none⟩) h⟩

theorem lt_of_heap {w : World} {b : Nat} {o : Obj} (h : w.heap[b]? = some o) : b < w.heap.size := by
  rcases Nat.lt_or_ge b w.heap.size with hlt | hge
  · exact hlt
  · rw [Array.getElem?_eq_none hge] at h; cases h

/-- A slice value of n elements, size cells each, that reads as the cells xs, in a block of D. -/
def Sl (D : Nat → Prop) (w : World) (size : Nat) (v : Value) (n : Nat) (xs : List Value) : Prop :=
  xs.length = n * size ∧ ∃ A c, v = .slice A n c ∧ n ≤ c ∧ c ≤ maxLen ∧
    (0 < n → ∃ b o, A = some ⟨b, o, none⟩ ∧ D b ∧ b < w.heap.size ∧ ∀ j u, xs[j]? = some u → w.cell? ⟨b, o + j, none⟩ = some u)

/-- D's blocks are as they were. -/
def Keeps (D : Nat → Prop) (w w' : World) : Prop := ∀ i, i < w.heap.size → D i → w'.heap[i]? = w.heap[i]?

theorem Keeps.refl (D : Nat → Prop) (w : World) : Keeps D w w := fun _ _ _ => rfl
theorem Keeps.cell {D : Nat → Prop} {w w' : World} (h : Keeps D w w') {p : Addr} {v : Value} (hp : w.cell? p = some v) (hs : D p.block) : w'.cell? p = some v :=
  (World.cell?_of_block (h p.block (World.block_lt_of_cell? w p hp) hs)).trans hp
theorem Keeps.of_below {D : Nat → Prop} {w w' : World} (h : Below w.heap.size w w') : Keeps D w w' := fun i hi _ => h.block i hi
theorem Keeps.of_belowB {D : Nat → Prop} {B : Nat} {w w' : World} (h : Below B w w') (hd : ∀ i, D i → i < B) : Keeps D w w' := fun i _ hi => h.block i (hd i hi)
theorem Keeps.of_fr {D S : Nat → Prop} {w w' : World} (h : Fr S w w') (hd : ∀ i, D i → ¬ S i) : Keeps D w w' := fun i hi hD => h.block i hi (hd i hD)

theorem Sl.mono {D D' : Nat → Prop} {w w' : World} {size n : Nat} {v : Value} {xs : List Value} (h : Sl D w size v n xs) (hk : Keeps D w w') (hw : w.heap.size ≤ w'.heap.size) (hd : ∀ i, i < w.heap.size → D i → D' i) : Sl D' w' size v n xs := by
  obtain ⟨hl, A, c, rfl, h1, h2, h3⟩ := h
  refine ⟨hl, A, c, rfl, h1, h2, fun hn => ?_⟩
  obtain ⟨b, o, rfl, hD, hb, hc⟩ := h3 hn
  exact ⟨b, o, rfl, hd b hb hD, by omega, fun j u hj => hk.cell (hc j u hj) hD⟩
theorem Sl.nil (D : Nat → Prop) (w : World) (size : Nat) : Sl D w size (.slice none 0 0) 0 [] := ⟨by simp, none, 0, rfl, Nat.le_refl _, by decide, fun h => absurd h (by omega)⟩
theorem Sl.at_ {D : Nat → Prop} {w : World} {size n : Nat} {v : Value} {xs : List Value} (h : Sl D w size v n xs) (hn : 0 < n) :
    ∃ b o c, v = .slice (some ⟨b, o, none⟩) n c ∧ n ≤ c ∧ c ≤ maxLen ∧ D b ∧ b < w.heap.size ∧ ∀ j u, xs[j]? = some u → w.cell? ⟨b, o + j, none⟩ = some u := by
  obtain ⟨hl, A, c, rfl, h1, h2, h3⟩ := h
  obtain ⟨b, o, rfl, hD, hb, hc⟩ := h3 hn
  exact ⟨b, o, c, rfl, h1, h2, hD, hb, hc⟩

/-- A byte as a cell has it. -/
def byteV (c : UInt8) : Value := .int .u8 c.toNat
/-- A slice of bytes. -/
def Bytes (D : Nat → Prop) (w : World) (v : Value) (l : List UInt8) : Prop := Sl D w 1 v l.length (l.map byteV)
theorem Bytes.mono {D D' : Nat → Prop} {w w' : World} {v : Value} {l : List UInt8} (h : Bytes D w v l) (hk : Keeps D w w') (hw : w.heap.size ≤ w'.heap.size) (hd : ∀ i, i < w.heap.size → D i → D' i) : Bytes D' w' v l := Sl.mono h hk hw hd

/-- What a list of things with cells reads as, each with its own reading. -/
def Recs {α : Type} (R : World → α → List Value → Prop) (w : World) : List α → List Value → Prop
  | [], xs => xs = []
  | a :: l, xs => ∃ c r, xs = c ++ r ∧ R w a c ∧ Recs R w l r

theorem Recs.mono {α : Type} {R R' : World → α → List Value → Prop} {w w' : World} (h : ∀ a c, R w a c → R' w' a c) : ∀ (l : List α) (xs : List Value), Recs R w l xs → Recs R' w' l xs
  | [], _, hx => hx
  | _ :: l, _, ⟨c, r, hx, hc, hr⟩ => ⟨c, r, hx, h _ _ hc, Recs.mono h l r hr⟩
theorem Recs.snoc {α : Type} {R : World → α → List Value → Prop} {w : World} {a : α} {c : List Value} (hc : R w a c) : ∀ (l : List α) (xs : List Value), Recs R w l xs → Recs R w (l ++ [a]) (xs ++ c)
  | [], xs, hx => ⟨c, [], by cases hx; simp, hc, rfl⟩
  | _ :: l, _, ⟨c', r, hx, hc', hr⟩ => ⟨c', r ++ c, by rw [hx, List.append_assoc], hc', Recs.snoc hc l r hr⟩
/-- The k-th thing's cells stand at k times the size. -/
theorem Recs.get {α : Type} {R : World → α → List Value → Prop} {w : World} {s : Nat} (hs : ∀ a c, R w a c → c.length = s) : ∀ (l : List α) (xs : List Value), Recs R w l xs → ∀ (k : Nat) (hk : k < l.length),
    ∃ c, R w l[k] c ∧ ∀ j, j < s → xs[k * s + j]? = c[j]?
  | a :: l, _, ⟨c, r, hx, hc, hr⟩, 0, _ => ⟨c, hc, fun j hj => by rw [hx, Nat.zero_mul, Nat.zero_add, List.getElem?_append_left (by rw [hs _ _ hc]; exact hj)]⟩
  | a :: l, _, ⟨c, r, hx, hc, hr⟩, k + 1, hk => by
    obtain ⟨c', hc', hj⟩ := Recs.get hs l r hr k (by simpa using hk)
    refine ⟨c', hc', fun j h => ?_⟩
    have := hs _ _ hc
    rw [hx, List.getElem?_append_right (by rw [this, Nat.add_mul]; omega), ← hj j h]
    congr 1
    rw [this, Nat.add_mul]
    omega
theorem Recs.length {α : Type} {R : World → α → List Value → Prop} {w : World} {s : Nat} (hs : ∀ a c, R w a c → c.length = s) : ∀ (l : List α) (xs : List Value), Recs R w l xs → xs.length = l.length * s
  | [], xs, hx => by cases hx; simp
  | a :: l, _, ⟨c, r, hx, hc, hr⟩ => by rw [hx, List.length_append, hs _ _ hc, Recs.length hs l r hr, List.length_cons, Nat.add_mul]; omega

/-- A piece. -/
structure Pc where
  C : Int
  B : List UInt8
/-- A backup. -/
structure Bk where
  name : ByteArray
  parent : ByteArray
  bits : Int
  size : Int
  pieces : List Pc
/-- A piece of the program's. -/
def PcCells (D : Nat → Prop) (w : World) (p : Pc) (c : List Value) : Prop := ∃ bv, c = [.int .i64 p.C, bv] ∧ Bytes D w bv p.B
/-- A slice of pieces. -/
def Pieces (D : Nat → Prop) (w : World) (v : Value) (l : List Pc) : Prop := ∃ xs, Sl D w 2 v l.length xs ∧ Recs (PcCells D) w l xs
/-- A backup of the program's, as five cells. -/
def BkCells (D : Nat → Prop) (w : World) (b : Bk) (c : List Value) : Prop :=
  ∃ pv, c = [.string b.name, .string b.parent, .int .i64 b.bits, .int .i64 b.size, pv] ∧ Pieces D w pv b.pieces

theorem PcCells.mono {D D' : Nat → Prop} {w w' : World} (hk : Keeps D w w') (hw : w.heap.size ≤ w'.heap.size) (hd : ∀ i, i < w.heap.size → D i → D' i) (p : Pc) (c : List Value) (h : PcCells D w p c) : PcCells D' w' p c := by
  obtain ⟨bv, hc, hb⟩ := h
  exact ⟨bv, hc, hb.mono hk hw hd⟩
theorem Pieces.mono {D D' : Nat → Prop} {w w' : World} {v : Value} {l : List Pc} (h : Pieces D w v l) (hk : Keeps D w w') (hw : w.heap.size ≤ w'.heap.size) (hd : ∀ i, i < w.heap.size → D i → D' i) : Pieces D' w' v l := by
  obtain ⟨xs, h1, h2⟩ := h
  exact ⟨xs, h1.mono hk hw hd, Recs.mono (PcCells.mono hk hw hd) l xs h2⟩
theorem BkCells.mono {D D' : Nat → Prop} {w w' : World} (hk : Keeps D w w') (hw : w.heap.size ≤ w'.heap.size) (hd : ∀ i, i < w.heap.size → D i → D' i) (b : Bk) (c : List Value) (h : BkCells D w b c) : BkCells D' w' b c := by
  obtain ⟨pv, hc, hp⟩ := h
  exact ⟨pv, hc, hp.mono hk hw hd⟩
theorem PcCells.len {D : Nat → Prop} {w : World} (p : Pc) (c : List Value) (h : PcCells D w p c) : c.length = 2 := by obtain ⟨bv, rfl, _⟩ := h; rfl
theorem BkCells.len {D : Nat → Prop} {w : World} (b : Bk) (c : List Value) (h : BkCells D w b c) : c.length = 5 := by obtain ⟨pv, rfl, _⟩ := h; rfl
/-- The k-th piece, as the walk asks for it. -/
theorem Pieces.at_ {D : Nat → Prop} {w : World} {A : Option Addr} {n c : Nat} {l : List Pc} (h : Pieces D w (.slice A n c) l) {k : Nat} (hk : k < n) :
    n = l.length ∧ ∃ b o bv, ∃ hk' : k < l.length, A = some ⟨b, o, none⟩ ∧ D b ∧ b < w.heap.size ∧ w.cell? ⟨b, o + k * 2, none⟩ = some (.int .i64 (l[k]'hk').C) ∧ w.cell? ⟨b, o + k * 2 + 1, none⟩ = some bv ∧ Bytes D w bv (l[k]'hk').B := by
  obtain ⟨xs, ⟨hl, A', c', he, _, _, h3⟩, hr⟩ := h
  injection he with e1 e2 e3
  subst e1 e2 e3
  obtain ⟨b, o, rfl, hD, hb, hc⟩ := h3 (by omega)
  obtain ⟨cs, ⟨bv, rfl, hB⟩, hj⟩ := Recs.get PcCells.len l xs hr k hk
  refine ⟨rfl, b, o, bv, hk, rfl, hD, hb, ?_, ?_, hB⟩
  · exact hc (k * 2) _ (by simpa using hj 0 (by omega))
  · have := hc (k * 2 + 1) _ (by simpa using hj 1 (by omega))
    simpa [Nat.add_assoc] using this
theorem Pieces.form {D : Nat → Prop} {w : World} {v : Value} {l : List Pc} (h : Pieces D w v l) : ∃ A c, v = .slice A l.length c ∧ l.length ≤ c ∧ c ≤ maxLen := by
  obtain ⟨xs, ⟨_, A, c, rfl, h1, h2, _⟩, _⟩ := h
  exact ⟨A, c, rfl, h1, h2⟩
theorem Bytes.form {D : Nat → Prop} {w : World} {v : Value} {l : List UInt8} (h : Bytes D w v l) : ∃ A c, v = .slice A l.length c ∧ l.length ≤ c ∧ c ≤ maxLen := by
  obtain ⟨_, A, c, rfl, h1, h2, _⟩ := h
  exact ⟨A, c, rfl, h1, h2⟩

/-! ### append onto a row of the call's own, from whatever slice -/
theorem addr_add (b o j : Nat) : (⟨b, o, none⟩ : Addr).add j = ⟨b, o + j, none⟩ := by
  unfold Addr.add
  split
  · rename_i h; subst h; rfl
  · rfl
theorem run_append_none {P : Program} (w : World) (base : Nat) (t ty e : TypeId) (i : TypeInfo) (size : Nat) (ht : P.underlying t = some (.slice e)) (hi : P.info? e = some i)
    (v : Value) (n : Nat) (xs : List Value) (hown : w.ownsRow base e size v n xs) (c : Nat) : (Builtin.append_ #[t, t] ty #[v, .slice none 0 c]).run P w = .ok v w := by
  rcases hown.2 with ⟨rfl, rfl⟩ | ⟨g, cap, cur, rfl, _, _, hnc, _⟩
  · simp [Builtin.append_, run_underlying ht, sizeOf, typeInfo, hi, Builtin.lenOf, Builtin.firstCells]
  · simp [Builtin.append_, run_underlying ht, sizeOf, typeInfo, hi, Builtin.lenOf, Builtin.firstCells, hnc, storeCells]

theorem run_append_sl {P : Program} (w : World) (base : Nat) (t ty e : TypeId) (i : TypeInfo) (z : Value) (size bytes : Nat) (ht : P.underlying t = some (.slice e)) (hi : P.info? e = some i) (hz : i.zero = some z)
    (hsize : i.size = size) (hby : i.bytes = bytes) (hzs : z.cells.size = size) (hsz : 0 < size)
    (v : Value) (n : Nat) (xs : List Value) (hown : w.ownsRow base e size v n xs)
    (D : Nat → Prop) (src : Value) (m : Nat) (news : List Value) (hr : Sl D w size src m news) (h1 : ∀ u ∈ news, u.oneCell' = true)
    (h63 : n + m ≤ maxLen) (hbytes : (n + m) * bytes ≤ 140737488355328) (hbase : base ≤ w.heap.size) :
    ∃ v' w', (Builtin.append_ #[t, t] ty #[v, src]).run P w = .ok v' w' ∧ w'.ownsRow base e size v' (n + m) (xs ++ news) ∧ w.grownBy w' v.ownBlock ∧
      (v'.ownBlock = v.ownBlock ∨ v'.ownBlock = some w.heap.size) := by
  obtain ⟨hl, A, c, rfl, _, _, h3⟩ := hr
  rcases A with _ | ad
  · have hm : m = 0 := by
      rcases Nat.eq_zero_or_pos m with h0 | h0
      · exact h0
      · obtain ⟨b, o, h, _⟩ := h3 h0
        cases h
    subst hm
    have hn : news = [] := List.eq_nil_of_length_eq_zero (by simpa using hl)
    subst hn
    exact ⟨v, w, run_append_none w base t ty e i size ht hi v n xs hown c, by simpa using hown, World.grownBy.refl w _, .inl rfl⟩
  · have hcells : ∀ j u, news[j]? = some u → w.cell? (ad.add j) = some u := by
      intro j u hu
      rcases Nat.eq_zero_or_pos m with h0 | h0
      · subst h0
        have hn : news = [] := List.eq_nil_of_length_eq_zero (by simpa using hl)
        subst hn
        simp at hu
      · obtain ⟨b, o, h, _, _, hc⟩ := h3 h0
        injection h with h
        subst h
        rw [addr_add]
        exact hc j u hu
    obtain ⟨v', w', hrun, h2, h4, _, h5⟩ := run_append_own_at (P := P) w base t ty e i z size bytes ht hi hz hsize hby hzs hsz v n xs hown ad m c news hl hcells h1 h63 hbytes hbase
    exact ⟨v', w', hrun, h2, h4, h5⟩

theorem wp_append_sl {P : Program} (w : World) {o : Oper} {a : Act} {K : Act → World → Prop} {Q : Exit → Act → World → Prop} (s x : Operand) (t : TypeId)
    (ho : o.op = .call { callee := .builtin .append, args := #[s, x], argTypes := #[t, t] })
    (base : Nat) (e : TypeId) (z : Value) (size bytes : Nat) (ht : P.underlying t = some (.slice e)) (hinf : (P.info? e).map (fun i => (i.zero, i.size, i.bytes)) = some (some z, size, bytes)) (hzs : z.cells.size = size) (hsz : 0 < size)
    (v : Value) (n : Nat) (xs : List Value) (hs : a.eval s = v) (hown : w.ownsRow base e size v n xs)
    (D : Nat → Prop) (src : Value) (m : Nat) (news : List Value) (hx : a.eval x = src) (hr : Sl D w size src m news) (h1 : ∀ u ∈ news, u.oneCell' = true)
    (h63 : n + m ≤ maxLen) (hbytes : (n + m) * bytes ≤ 140737488355328) (hbase : base ≤ w.heap.size)
    (h : ∀ v' w', w'.ownsRow base e size v' (n + m) (xs ++ news) → w.grownBy w' v.ownBlock → (v'.ownBlock = v.ownBlock ∨ v'.ownBlock = some w.heap.size) → K (a.put o.dst v') w') : o.wp P a w K Q := by
  obtain ⟨i, hi, hz, hsize, hby⟩ := info_parts hinf
  obtain ⟨v', w', hrun, h2, h3, h4⟩ := run_append_sl (P := P) w base t o.type e i z size bytes ht hi hz hsize hby hzs hsz v n xs hown D src m news hr h1 h63 hbytes hbase
  unfold Oper.wp execOp
  simp only [ho, resolve, invoke, builtin, Sem.run_bind, Sem.run_pure, Result.andThen_ok, List.map_toArray, List.map_cons, List.map_nil, hs, hx, hrun]
  exact h v' w' h2 h3 h4

/-- At a plain region's list. -/
theorem wpList_append_sl {P : Program} (w : World) {ops : Array Oper} {rest : List Oper} {o : Oper} {a : Act} {Q : Exit → Act → World → Prop} (hgd : o.guard = none) (s x : Operand) (t : TypeId)
    (ho : o.op = .call { callee := .builtin .append, args := #[s, x], argTypes := #[t, t] })
    (base : Nat) (e : TypeId) (z : Value) (size bytes : Nat) (ht : P.underlying t = some (.slice e)) (hinf : (P.info? e).map (fun i => (i.zero, i.size, i.bytes)) = some (some z, size, bytes)) (hzs : z.cells.size = size) (hsz : 0 < size)
    (v : Value) (n : Nat) (xs : List Value) (hs : a.eval s = v) (hown : w.ownsRow base e size v n xs)
    (D : Nat → Prop) (src : Value) (m : Nat) (news : List Value) (hx : a.eval x = src) (hr : Sl D w size src m news) (h1 : ∀ u ∈ news, u.oneCell' = true)
    (h63 : n + m ≤ maxLen) (hbytes : (n + m) * bytes ≤ 140737488355328) (hbase : base ≤ w.heap.size)
    (h : ∀ v' w', w'.ownsRow base e size v' (n + m) (xs ++ news) → w.grownBy w' v.ownBlock → (v'.ownBlock = v.ownBlock ∨ v'.ownBlock = some w.heap.size) → wpList P ops Q rest (a.put o.dst v') w') : wpList P ops Q (o :: rest) a w :=
  wpList_plain hgd fun _ hK => wp_append_sl w s x t ho base e z size bytes ht hinf hzs hsz v n xs hs hown D src m news hx hr h1 h63 hbytes hbase fun v' w' h2 h3 h4 => hK _ _ (h v' w' h2 h3 h4)

/-- At a step of a region that draws its order. -/
theorem step_append_sl {P : Program} (w : World) {ops : Array Oper} {o : Oper} {a : Act} {K : Act → World → Prop} {Q : Exit → Act → World → Prop} {E : Prop} (hgd : o.guard = none) (s x : Operand) (t : TypeId)
    (ho : o.op = .call { callee := .builtin .append, args := #[s, x], argTypes := #[t, t] })
    (base : Nat) (e : TypeId) (z : Value) (size bytes : Nat) (ht : P.underlying t = some (.slice e)) (hinf : (P.info? e).map (fun i => (i.zero, i.size, i.bytes)) = some (some z, size, bytes)) (hzs : z.cells.size = size) (hsz : 0 < size)
    (v : Value) (n : Nat) (xs : List Value) (hs : a.eval s = v) (hown : w.ownsRow base e size v n xs)
    (D : Nat → Prop) (src : Value) (m : Nat) (news : List Value) (hx : a.eval x = src) (hr : Sl D w size src m news) (h1 : ∀ u ∈ news, u.oneCell' = true)
    (h63 : n + m ≤ maxLen) (hbytes : (n + m) * bytes ≤ 140737488355328) (hbase : base ≤ w.heap.size)
    (h : ∀ v' w', w'.ownsRow base e size v' (n + m) (xs ++ news) → w.grownBy w' v.ownBlock → (v'.ownBlock = v.ownBlock ∨ v'.ownBlock = some w.heap.size) → K (a.put o.dst v') w') :
    if Region.wanted o (yielded ops a.tmps) = true then Oper.wp P o a w K Q else E := by
  have hw : Region.wanted o (yielded ops a.tmps) = true := by simp [Region.wanted, hgd]
  rw [if_pos hw]
  exact wp_append_sl w s x t ho base e z size bytes ht hinf hzs hsz v n xs hs hown D src m news hx hr h1 h63 hbytes hbase h

theorem byteV_one (l : List UInt8) : ∀ u ∈ l.map byteV, u.oneCell' = true := by
  intro u hu
  obtain ⟨c, _, rfl⟩ := List.mem_map.1 hu
  rfl
/-- A row of the call's own reads as a slice. -/
theorem Sl.of_own {w : World} {base : Nat} {e : TypeId} {size n : Nat} {v : Value} {xs : List Value} (h : w.ownsRow base e size v n xs) : Sl (fun i => v.ownBlock = some i) w size v n xs := by
  refine ⟨h.1, ?_⟩
  rcases h.2 with ⟨rfl, rfl⟩ | ⟨g, cap, cur, rfl, hg, hh, h1, h2, h3, h4⟩
  · exact ⟨none, 0, rfl, Nat.le_refl _, by decide, fun h => absurd h (by omega)⟩
  · refine ⟨_, cap, rfl, h1, h2, fun _ => ⟨g, 0, rfl, rfl, (h.lt g rfl).2, fun j u hj => ?_⟩⟩
    have := h.cells (g := g) rfl j u hj
    rwa [addr_add] at this
theorem Sl.weaken {D D' : Nat → Prop} {w : World} {size n : Nat} {v : Value} {xs : List Value} (h : Sl D w size v n xs) (hd : ∀ i, i < w.heap.size → D i → D' i) : Sl D' w size v n xs := h.mono (Keeps.refl _ _) (Nat.le_refl _) hd

theorem keep {W w1 : World} (hb : Below W.heap.size W w1) {p : Addr} {v : Value} (h : W.cell? p = some v) : w1.cell? p = some v :=
  (hb.cell (World.block_lt_of_cell? W p h)).trans h
/-- The cells of a block, known whole, none frozen. -/
def Cs (w : World) (g : Nat) (l : List Value) : Prop := ∃ t, w.heap[g]? = some (.cells l.toArray t (0, 0))
theorem Cs.c {w : World} {g : Nat} {l : List Value} (h : Cs w g l) (j : Nat) (u : Value) (hj : l[j]? = some u) : w.cell? ⟨g, j, none⟩ = some u := by
  obtain ⟨t, h⟩ := h
  simp [World.cell?, h, hj]
theorem Cs.z {w : World} {g : Nat} {l : List Value} (h : Cs w g l) (j : Nat) : w.frozen? ⟨g, j, none⟩ = false := by
  obtain ⟨t, h⟩ := h
  simp [World.frozen?, h]
theorem Cs.keep {W w1 : World} (hb : Below W.heap.size W w1) {g : Nat} {l : List Value} (h : Cs W g l) : Cs w1 g l := by
  obtain ⟨t, h⟩ := h
  exact ⟨t, (hb.block g (lt_of_heap h)).trans h⟩
theorem Cs.far {W w1 : World} {g : Nat} {l : List Value} (h : Cs W g l) (hb : w1.heap[g]? = W.heap[g]?) : Cs w1 g l := by
  obtain ⟨t, h⟩ := h
  exact ⟨t, hb.trans h⟩
theorem Cs.new (w : World) (l : List Value) (t : TypeId) : Cs (w.alloc (.cells l.toArray t)) w.heap.size l := ⟨t, heap_alloc_new w _⟩
theorem Cs.lt {w : World} {g : Nat} {l : List Value} (h : Cs w g l) : g < w.heap.size := by
  obtain ⟨t, h⟩ := h
  exact lt_of_heap h
theorem Cs.set {w : World} {g : Nat} {l : List Value} (h : Cs w g l) (j : Nat) (u : Value) : Cs (w.setCell ⟨g, j, none⟩ u) g (l.set j u) := by
  obtain ⟨t, h⟩ := h
  refine ⟨t, ?_⟩
  simp [World.setCell, Array.getElem?_modify, h]
theorem Cs.other {w : World} {g : Nat} {l : List Value} (h : Cs w g l) {p : Addr} (hp : g ≠ p.block) (u : Value) : Cs (w.setCell p u) g l := h.far (Below.heap_setCell w p u g hp)
theorem Pieces.below {D : Nat → Prop} {w w' : World} {v : Value} {l : List Pc} (h : Pieces D w v l) (hb : Below w.heap.size w w') : Pieces D w' v l :=
  h.mono (Keeps.of_below hb) hb.size fun _ _ h => h
theorem Bytes.below {D : Nat → Prop} {w w' : World} {v : Value} {l : List UInt8} (h : Bytes D w v l) (hb : Below w.heap.size w w') : Bytes D w' v l :=
  h.mono (Keeps.of_below hb) hb.size fun _ _ h => h
theorem Sl.below {D : Nat → Prop} {w w' : World} {size n : Nat} {v : Value} {xs : List Value} (h : Sl D w size v n xs) (hb : Below w.heap.size w w') : Sl D w' size v n xs :=
  h.mono (Keeps.of_below hb) hb.size fun _ _ h => h
theorem alloc_below (w : World) (o : Obj) : Below w.heap.size w (w.alloc o) := (Below.refl _ _).alloc (Nat.le_refl _) _
theorem Below.then {a b c : World} (h : Below a.heap.size a b) (k : Below b.heap.size b c) : Below a.heap.size a c := h.trans (k.mono h.size)
theorem drew_below (w : World) : Below w.heap.size w w.drew := (Below.refl _ _).drew
theorem drewN_below (w : World) (n : Nat) : Below w.heap.size w (w.drewN n) := below_drewN (Below.refl _ _) n

/-! ### a row of the call's own whose elements are records -/
def RMono {α : Type} (R : (Nat → Prop) → World → α → List Value → Prop) : Prop :=
  ∀ (D D' : Nat → Prop) (w w' : World), Keeps D w w' → w.heap.size ≤ w'.heap.size → (∀ i, i < w.heap.size → D i → D' i) → ∀ a c, R D w a c → R D' w' a c
theorem PcCells.rmono : RMono PcCells := fun _ _ _ _ hk hw hd a c h => PcCells.mono hk hw hd a c h
theorem BkCells.rmono : RMono BkCells := fun _ _ _ _ hk hw hd a c h => BkCells.mono hk hw hd a c h
/-- From B on, but not in v's own block. -/
def Bo (B : Nat) (v : Value) : Nat → Prop := fun i => B ≤ i ∧ v.ownBlock ≠ some i
def OwnRecs {α : Type} (R : (Nat → Prop) → World → α → List Value → Prop) (T s : Nat) (w : World) (B : Nat) (v : Value) (l : List α) : Prop :=
  ∃ xs, w.ownsRow B T s v l.length xs ∧ Recs (R (Bo B v)) w l xs
theorem OwnRecs.nil {α : Type} (R : (Nat → Prop) → World → α → List Value → Prop) (T s : Nat) (w : World) (B : Nat) : OwnRecs R T s w B (.slice none 0 0) [] := ⟨[], World.ownsRow_nil _ _ _ _, rfl⟩
theorem own_below {w w' : World} {base : Nat} {e : TypeId} {size n : Nat} {v : Value} {xs : List Value} (h : w.ownsRow base e size v n xs) (hb : Below w.heap.size w w') : w'.ownsRow base e size v n xs :=
  h.kept (row := none) ⟨hb.os, hb.tape, hb.output, hb.size, fun k hk _ => hb.block k hk⟩ (by cases v.ownBlock <;> simp)
theorem OwnRecs.below {α : Type} {R : (Nat → Prop) → World → α → List Value → Prop} (hR : RMono R) {T s : Nat} {w w' : World} {B : Nat} {v : Value} {l : List α} (h : OwnRecs R T s w B v l) (hb : Below w.heap.size w w') : OwnRecs R T s w' B v l := by
  obtain ⟨xs, h1, h2⟩ := h
  exact ⟨xs, own_below h1 hb, Recs.mono (fun a c hc => hR _ _ _ _ (Keeps.of_below hb) hb.size (fun _ _ h => h) a c hc) l xs h2⟩
theorem OwnRecs.snoc {α : Type} {R : (Nat → Prop) → World → α → List Value → Prop} (hR : RMono R) {T s : Nat} {w w' : World} {B n : Nat} {v v' : Value} {l : List α} {xs : List Value} {a : α} {c : List Value}
    (h2 : Recs (R (Bo B v)) w l xs) (hc : R (Bo B v) w a c) (hl : n = (l ++ [a]).length) (hown : w'.ownsRow B T s v' n (xs ++ c)) (hgr : w.grownBy w' v.ownBlock) (hat : v'.ownBlock = v.ownBlock ∨ v'.ownBlock = some w.heap.size) : OwnRecs R T s w' B v' (l ++ [a]) := by
  subst hl
  have hk : Keeps (Bo B v) w w' := fun i hi hD => hgr.block i hi (fun e => hD.2 e.symm)
  have hd : ∀ i, i < w.heap.size → Bo B v i → Bo B v' i := fun i hi hD => ⟨hD.1, by
    rcases hat with e | e <;> rw [e]
    · exact hD.2
    · intro e; injection e; omega⟩
  exact ⟨_, hown, Recs.snoc (hR _ _ _ _ hk hgr.size hd a c hc) l xs (Recs.mono (fun a c hc => hR _ _ _ _ hk hgr.size hd a c hc) l xs h2)⟩
theorem OwnRecs.pieces {T : Nat} {w : World} {B : Nat} {v : Value} {l : List Pc} (h : OwnRecs PcCells T 2 w B v l) : Pieces (fun i => B ≤ i) w v l := by
  obtain ⟨xs, h1, h2⟩ := h
  exact ⟨xs, (Sl.of_own h1).weaken fun i _ hi => (h1.lt i hi).1, Recs.mono (fun a c hc => PcCells.mono (Keeps.refl _ _) (Nat.le_refl _) (fun i _ hi => hi.1) a c hc) l xs h2⟩

/-- The k-th piece, as the walk asks for it: its bytes' slice written out. -/
theorem Pieces.get {D : Nat → Prop} {w : World} {A : Option Addr} {n c : Nat} {l : List Pc} (h : Pieces D w (.slice A n c) l) {k : Nat} {p : Pc} (hx : l[k]? = some p) :
    ∃ b o A' c', A = some ⟨b, o, none⟩ ∧ D b ∧ b < w.heap.size ∧ w.cell? ⟨b, o + k * 2, none⟩ = some (.int .i64 p.C) ∧ w.cell? ⟨b, o + k * 2 + 1, none⟩ = some (.slice A' p.B.length c') ∧ Bytes D w (.slice A' p.B.length c') p.B ∧ p.B.length ≤ c' ∧ c' ≤ maxLen := by
  obtain ⟨hk, rfl⟩ := List.getElem?_eq_some_iff.1 hx
  have hn : n = l.length := by obtain ⟨A', c', he, _, _⟩ := h.form; injection he
  obtain ⟨-, b, o, bv, hk', rfl, hD, hb, c0, c1, hB⟩ := h.at_ (k := k) (by omega)
  obtain ⟨A', c', rfl, h1, h2⟩ := hB.form
  exact ⟨b, o, A', c', rfl, hD, hb, c0, c1, hB, h1, h2⟩
theorem take_succ_of {α : Type} {l : List α} {k : Nat} {x : α} (hx : l[k]? = some x) : l.take (k + 1) = l.take k ++ [x] := by
  obtain ⟨hk, rfl⟩ := List.getElem?_eq_some_iff.1 hx
  rw [List.take_succ_eq_append_getElem hk]
theorem getElem?_of_lt {α : Type} {l : List α} {k n : Nat} (h : l.length = n) (hk : k < n) : ∃ x, l[k]? = some x := ⟨_, List.getElem?_eq_getElem (by omega)⟩

/-- A slice over a new block. -/
theorem Sl.new (w : World) (l : List Value) (t s n : Nat) (hl : l.length = n * s) (hn : n ≤ maxLen) : Sl (fun i => i = w.heap.size) (w.alloc (.cells l.toArray t)) s (.slice (some ⟨w.heap.size, 0, none⟩) n n) n l :=
  ⟨hl, _, _, rfl, Nat.le_refl _, hn, fun _ => ⟨_, 0, rfl, rfl, by simp, fun j u hj => by rw [Nat.zero_add]; exact (Cs.new w l t).c j u hj⟩⟩
theorem Sl.drew {D : Nat → Prop} {w : World} {size n : Nat} {v : Value} {xs : List Value} (h : Sl D w size v n xs) : Sl D w.drew size v n xs := h
theorem Sl.new_drew (w : World) (l : List Value) (t s n : Nat) (hl : l.length = n * s) (hn : n ≤ maxLen) : Sl (fun i => i = w.heap.size) (w.alloc (.cells l.toArray t)).drew s (.slice (some ⟨w.heap.size, 0, none⟩) n n) n l := Sl.new w l t s n hl hn
/-- .. its block's number spelt as the walk has it. -/
theorem Sl.new_at (w : World) (l : List Value) (t s n g : Nat) (hg : g = w.heap.size) (hl : l.length = n * s) (hn : n ≤ maxLen) : Sl (fun i => i = g) (w.alloc (.cells l.toArray t)) s (.slice (some ⟨g, 0, none⟩) n n) n l := by
  subst hg; exact Sl.new w l t s n hl hn
theorem Sl.new_at_drew (w : World) (l : List Value) (t s n g : Nat) (hg : g = w.heap.size) (hl : l.length = n * s) (hn : n ≤ maxLen) : Sl (fun i => i = g) (w.alloc (.cells l.toArray t)).drew s (.slice (some ⟨g, 0, none⟩) n n) n l := Sl.new_at w l t s n g hg hl hn
theorem one_le_max : 1 ≤ maxLen := by decide
/-- Behind a law that writes one block: two rules for the walk. -/
theorem gcell {W w1 : World} {g : Nat} (hg : W.grownBy w1 (some g)) : (∀ b o, b < W.heap.size → b ≠ g → w1.cell? ⟨b, o, none⟩ = W.cell? ⟨b, o, none⟩) ∧ (∀ b o, b < W.heap.size → b ≠ g → w1.frozen? ⟨b, o, none⟩ = W.frozen? ⟨b, o, none⟩) :=
  ⟨fun b o h hne => hg.cell_far ⟨b, o, none⟩ h (fun e => hne (by injection e)), fun b o h hne => hg.frozen_far ⟨b, o, none⟩ h (fun e => hne (by injection e))⟩
theorem set_below {w : World} {B : Nat} {p : Addr} (hp : B ≤ p.block) (u : Value) : Below B w (w.setCell p u) := (Below.refl _ _).setCell hp u
theorem grown_below {w w' : World} {B : Nat} {row : Option Nat} (hg : w.grownBy w' row) (hB : B ≤ w.heap.size) (hr : ∀ k, row = some k → B ≤ k) : Below B w w' := (Below.refl _ _).grown hg hB hr
theorem fr_set {w : World} {p : Addr} {S : Nat → Prop} (hp : S p.block) (u : Value) : Fr S w (w.setCell p u) :=
  ⟨rfl, rfl, rfl, by simp [World.setCell], fun k _ hn => Below.heap_setCell _ _ _ _ (fun e => hn (e ▸ hp))⟩
theorem fr_grown {w w' : World} {row : Option Nat} {S : Nat → Prop} (hg : w.grownBy w' row) (hr : ∀ k, row = some k → S k) : Fr S w w' :=
  ⟨hg.os, hg.tape, hg.output, hg.size, fun k hk hn => hg.block k hk (fun e => hn (hr k e.symm))⟩
theorem fr_below {w w' : World} {B : Nat} {S : Nat → Prop} (hb : Below B w w') (hB : ∀ k, k < w.heap.size → B ≤ k → S k) : Fr S w w' :=
  ⟨hb.os, hb.tape, hb.output, hb.size, fun k hk hn => hb.block k (by
    rcases Nat.lt_or_ge k B with h | h
    · exact h
    · exact absurd (hB k hk h) hn)⟩

/-! ### copy into a block that is known whole, from whatever slice -/
theorem copy_src {D : Nat → Prop} {w : World} {m : Nat} {src : Value} {ys : List Value} (h : Sl D w 1 src m ys) (dLen : Nat) :
    ∃ sp sCap, src = .slice sp m sCap ∧ (ys.take dLen).length = Nat.min m dLen ∧ (0 < (ys.take dLen).length → ∃ ad, sp = some ad ∧ ∀ j v, (ys.take dLen)[j]? = some v → w.cell? (ad.add j) = some v) := by
  obtain ⟨hl, A, c, rfl, _, _, h3⟩ := h
  have hl1 : ys.length = m := by omega
  have hmin : (ys.take dLen).length = Nat.min m dLen := by rw [List.length_take, hl1]; exact Nat.min_comm _ _
  refine ⟨A, c, rfl, hmin, fun hp => ?_⟩
  have hm : 0 < m := by
    have := Nat.min_le_left m dLen
    have e : min m dLen = Nat.min m dLen := rfl
    omega
  obtain ⟨b, o, rfl, _, _, hc⟩ := h3 hm
  refine ⟨_, rfl, fun j v hj => ?_⟩
  rw [addr_add]
  refine hc j v ?_
  rw [List.getElem?_take] at hj
  split at hj
  · exact hj
  · cases hj

theorem run_copy_sl {P : Program} (w : World) (dT sT ty : TypeId) (elem : TypeId) (hu : P.underlying dT = some (.slice elem)) (hsz : (P.info? elem).map (·.size) = some 1)
    (dp : Option Addr) (dLen dCap : Nat) (src : Value) (g off : Nat) (hdp : 0 < dLen → dp = some ⟨g, off, none⟩) (cur : List Value) (hg : Cs w g cur) (D : Nat → Prop) (m : Nat) (ys : List Value) (hsl : Sl D w 1 src m ys)
    (hfit : off + dLen ≤ cur.length) (h1 : ∀ v ∈ ys, v.oneCell' = true) :
    ∃ w' n, (Builtin.copy_ #[dT, sT] ty #[.slice dp dLen dCap, src]).run P w = .ok (goInt n) w' ∧ Cs w' g (splice cur off (ys.take dLen)) ∧ w.grownBy w' (some g) := by
  obtain ⟨sp, sCap, rfl, hl, hpos⟩ := copy_src hsl dLen
  obtain ⟨t, hg⟩ := hg
  have hle : (ys.take dLen).length ≤ dLen := by rw [List.length_take]; exact Nat.min_le_left _ _
  by_cases h0 : (ys.take dLen).length = 0
  · refine ⟨w, _, run_copy_none (P := P) w dT sT ty elem dp sp dLen dCap m sCap hu hsz (by rw [← hl]; exact h0), ?_, World.grownBy.refl _ _⟩
    rw [List.eq_nil_of_length_eq_zero h0]
    exact ⟨t, by simpa [splice] using hg⟩
  · obtain ⟨ad, rfl, hsrc⟩ := hpos (by omega)
    obtain rfl := hdp (by omega)
    refine ⟨_, _, run_copy_row (P := P) w dT sT ty elem g off dLen dCap ad m sCap cur.toArray t (ys.take dLen) hu hsz hg hl hsrc (by simpa using (by omega : off + (ys.take dLen).length ≤ cur.length)) (fun v hv => h1 v (List.mem_of_mem_take hv)), ?_, ?_⟩
    · exact ⟨t, by simpa [splice] using setRow_heap w g _ _ t _ hg⟩
    · exact ⟨rfl, rfl, rfl, by simp [World.setRow], fun k _ hk => setRow_other w g k _ (fun e => hk (by rw [e]))⟩

theorem wp_copy_sl {P : Program} {w : World} {o : Oper} {a : Act} {K : Act → World → Prop} {Q : Exit → Act → World → Prop} (d s : Operand) (dT sT : TypeId)
    (ho : o.op = .call { callee := .builtin .copy, args := #[d, s], argTypes := #[dT, sT] }) (elem : TypeId) (hu : P.underlying dT = some (.slice elem)) (hsz : (P.info? elem).map (·.size) = some 1)
    (dp : Option Addr) (dLen dCap : Nat) (src : Value) (hd : a.eval d = .slice dp dLen dCap) (hs : a.eval s = src)
    (g off : Nat) (hdp : 0 < dLen → dp = some ⟨g, off, none⟩) (cur : List Value) (hg : Cs w g cur) (D : Nat → Prop) (m : Nat) (ys : List Value) (hsl : Sl D w 1 src m ys)
    (hfit : off + dLen ≤ cur.length) (h1 : ∀ v ∈ ys, v.oneCell' = true)
    (h : ∀ w' n, Cs w' g (splice cur off (ys.take dLen)) → w.grownBy w' (some g) → K (a.put o.dst (goInt n)) w') : o.wp P a w K Q := by
  obtain ⟨w', n, hrun, h2, h3⟩ := run_copy_sl (P := P) w dT sT o.type elem hu hsz dp dLen dCap src g off hdp cur hg D m ys hsl hfit h1
  unfold Oper.wp execOp
  simp only [ho, resolve, invoke, builtin, Sem.run_bind, Sem.run_pure, Result.andThen_ok, List.map_toArray, List.map_cons, List.map_nil, hs, hd, hrun]
  exact h w' n h2 h3

theorem wpList_copy_sl {P : Program} {w : World} {ops : Array Oper} {rest : List Oper} {o : Oper} {a : Act} {Q : Exit → Act → World → Prop} (hgd : o.guard = none) (d s : Operand) (dT sT : TypeId)
    (ho : o.op = .call { callee := .builtin .copy, args := #[d, s], argTypes := #[dT, sT] }) (elem : TypeId) (hu : P.underlying dT = some (.slice elem)) (hsz : (P.info? elem).map (·.size) = some 1)
    (dp : Option Addr) (dLen dCap : Nat) (src : Value) (hd : a.eval d = .slice dp dLen dCap) (hs : a.eval s = src)
    (g off : Nat) (hdp : 0 < dLen → dp = some ⟨g, off, none⟩) (cur : List Value) (hg : Cs w g cur) (D : Nat → Prop) (m : Nat) (ys : List Value) (hsl : Sl D w 1 src m ys)
    (hfit : off + dLen ≤ cur.length) (h1 : ∀ v ∈ ys, v.oneCell' = true)
    (h : ∀ w' n, Cs w' g (splice cur off (ys.take dLen)) → w.grownBy w' (some g) → wpList P ops Q rest (a.put o.dst (goInt n)) w') :
    wpList P ops Q (o :: rest) a w :=
  wpList_plain hgd fun _ hK => wp_copy_sl d s dT sT ho elem hu hsz dp dLen dCap src hd hs g off hdp cur hg D m ys hsl hfit h1 fun w' n h2 h3 => hK _ _ (h w' n h2 h3)

theorem step_copy_sl {P : Program} {ops : Array Oper} {o : Oper} {a : Act} {w : World} {K : Act → World → Prop} {Q : Exit → Act → World → Prop} {E : Prop} (hgd : o.guard = none) (d s : Operand) (dT sT : TypeId)
    (ho : o.op = .call { callee := .builtin .copy, args := #[d, s], argTypes := #[dT, sT] }) (elem : TypeId) (hu : P.underlying dT = some (.slice elem)) (hsz : (P.info? elem).map (·.size) = some 1)
    (dp : Option Addr) (dLen dCap : Nat) (src : Value) (hd : a.eval d = .slice dp dLen dCap) (hs : a.eval s = src)
    (g off : Nat) (hdp : 0 < dLen → dp = some ⟨g, off, none⟩) (cur : List Value) (hg : Cs w g cur) (D : Nat → Prop) (m : Nat) (ys : List Value) (hsl : Sl D w 1 src m ys)
    (hfit : off + dLen ≤ cur.length) (h1 : ∀ v ∈ ys, v.oneCell' = true)
    (h : ∀ w' n, Cs w' g (splice cur off (ys.take dLen)) → w.grownBy w' (some g) → K (a.put o.dst (goInt n)) w') :
    if Region.wanted o (yielded ops a.tmps) = true then Oper.wp P o a w K Q else E := by
  have hw : Region.wanted o (yielded ops a.tmps) = true := by simp [Region.wanted, hgd]
  rw [if_pos hw]
  exact wp_copy_sl d s dT sT ho elem hu hsz dp dLen dCap src hd hs g off hdp cur hg D m ys hsl hfit h1 h
theorem run_make_bytes {P : Program} (t e : TypeId) (ht : P.underlying t = some (.slice e)) (hinf : (P.info? e).map (fun i => (i.zero, i.size, i.bytes)) = some (some (.int .u8 0), 1, 1)) (n : Nat) (hn : n ≤ 4294967296) (w : World) :
    (Instr.makeSlice t (.int .i64 (n : Int)) (.int .i64 (n : Int))).run P w = .ok (.slice (some ⟨w.heap.size, 0, none⟩) n n) (w.alloc (.cells (List.replicate n (.int .u8 0)).toArray e)) := by
  obtain ⟨i, hi, hz, hsize, hby⟩ := info_parts hinf
  have h := run_make (P := P) w t e i _ ht hi hz .i64 .i64 (n : Int) (n : Int) (by omega) (by omega) (by rw [hby]; omega) (by omega)
  rw [h, hsize]
  simp only [Int.toNat_natCast, Nat.mul_one]
  congr 3
  simp [madeCells, Value.cells]
  apply Array.ext
  · simp
  · intro i h1 h2
    simp [Nat.mod_one]

/-! ### between strings and bytes -/
theorem run_str_bytes {P : Program} (w : World) (src dst e : TypeId) (s : ByteArray) (hs : P.underlying src = some .string) (hd : P.underlying dst = some (.slice e)) (he : P.underlying e = some (.int .u8)) (hm : s.size ≤ 4294967296) :
    ∃ cap w1, (convert src dst (.string s)).run P w = .ok (.slice (some ⟨w.heap.size, 0, none⟩) s.size cap) w1 ∧ Bytes (fun i => w.heap.size ≤ i) w1 (.slice (some ⟨w.heap.size, 0, none⟩) s.size cap) s.data.toList ∧ Below w.heap.size w w1 := by
  refine ⟨_, _, Lib.run_convert_string_bytes w src dst e s hs hd he, ?_, ?_⟩
  · have hl : s.data.toList.length = s.size := by simp
    unfold Bytes
    rw [hl]
    refine ⟨by rw [List.length_map, hl]; omega, _, _, rfl, grownCap_ge _ _ _ _, grownCap_le_maxLen _ _ _ _ (by simp only [maxLen]; omega), fun _ => ⟨_, 0, rfl, Nat.le_refl _, by rw [Lib.bytesWorld_size]; omega, fun j u hj => ?_⟩⟩
    have hjl : j < s.data.toList.length := by
      have := (List.getElem?_eq_some_iff.1 hj).1
      simpa using this
    rw [Nat.zero_add, Lib.bytesWorld_cell w e s j (by omega)]
    rw [List.getElem?_map, List.getElem?_eq_getElem hjl] at hj
    simp only [Option.map_some, Option.some.injEq] at hj
    rw [← hj, List.getD_eq_getElem?_getD, List.getElem?_eq_getElem hjl]
    rfl
  · exact ⟨rfl, rfl, rfl, by rw [Lib.bytesWorld_size]; omega, fun k hk => Lib.bytesWorld_at_old w e s k hk⟩

theorem wp_str_bytes {P : Program} {w : World} {o : Oper} {a : Act} {K : Act → World → Prop} {Q : Exit → Act → World → Prop} (src dst : TypeId) (x : Operand) (ho : o.op = .convert src dst x)
    (e : TypeId) (s : ByteArray) (hs : P.underlying src = some .string) (hd : P.underlying dst = some (.slice e)) (he : P.underlying e = some (.int .u8)) (hm : s.size ≤ 4294967296) (hx : a.eval x = .string s) (g : Nat) (hg : g = w.heap.size)
    (h : ∀ cap w', Bytes (fun i => g ≤ i) w' (.slice (some ⟨g, 0, none⟩) s.size cap) s.data.toList → Below w.heap.size w w' → K (a.put o.dst (.slice (some ⟨g, 0, none⟩) s.size cap)) w') : o.wp P a w K Q := by
  subst hg
  obtain ⟨cap, w1, hrun, h1, h2⟩ := run_str_bytes (P := P) w src dst e s hs hd he hm
  unfold Oper.wp execOp
  simp only [ho, Sem.run_bind, hx, hrun, Result.andThen_ok, Sem.run_pure]
  exact h cap w1 h1 h2
theorem wpList_str_bytes {P : Program} {w : World} {ops : Array Oper} {rest : List Oper} {o : Oper} {a : Act} {Q : Exit → Act → World → Prop} (hgd : o.guard = none) (src dst : TypeId) (x : Operand) (ho : o.op = .convert src dst x)
    (e : TypeId) (s : ByteArray) (hs : P.underlying src = some .string) (hd : P.underlying dst = some (.slice e)) (he : P.underlying e = some (.int .u8)) (hm : s.size ≤ 4294967296) (hx : a.eval x = .string s) (g : Nat) (hg : g = w.heap.size)
    (h : ∀ cap w', Bytes (fun i => g ≤ i) w' (.slice (some ⟨g, 0, none⟩) s.size cap) s.data.toList → Below w.heap.size w w' → wpList P ops Q rest (a.put o.dst (.slice (some ⟨g, 0, none⟩) s.size cap)) w') : wpList P ops Q (o :: rest) a w :=
  wpList_plain hgd fun _ hK => wp_str_bytes src dst x ho e s hs hd he hm hx g hg fun cap w' h1 h2 => hK _ _ (h cap w' h1 h2)

theorem run_bytes_str {P : Program} {D : Nat → Prop} {w : World} {A : Option Addr} {n c : Nat} {l : List UInt8} (h : Bytes D w (.slice A n c) l) (src dst e : TypeId) (hs : P.underlying src = some (.slice e)) (he : P.underlying e = some (.int .u8)) (hd : P.underlying dst = some .string) :
    (convert src dst (.slice A n c)).run P w = .ok (.string ⟨l.toArray⟩) w := by
  obtain ⟨hl, A', c', hv, _, _, h3⟩ := h
  injection hv with e1 e2 e3
  subst e1 e2 e3
  rcases A with _ | ad
  · have h0 : l = [] := by
      rcases Nat.eq_zero_or_pos l.length with h | h
      · exact List.eq_nil_of_length_eq_zero h
      · obtain ⟨b, o, ha, _⟩ := h3 h; cases ha
    subst h0
    exact run_convert_bytes_nil w src e hs he _ _ dst hd
  · refine run_convert_bytes_back w src dst e ad _ l hs he hd fun j hj => ?_
    obtain ⟨b, o, ha, _, _, hc⟩ := h3 (by omega)
    injection ha with ha
    subst ha
    rw [addr_add]
    exact hc j _ (by simp [List.getElem?_eq_getElem hj, byteV])

/-- A piece of the document's. -/
def RPcCells (_ : Nat → Prop) (_ : World) (p : Pc) (c : List Value) : Prop := c = [.int .i64 p.C, .string ⟨p.B.toArray⟩]
def RPieces (D : Nat → Prop) (w : World) (v : Value) (l : List Pc) : Prop := ∃ xs, Sl D w 2 v l.length xs ∧ Recs (RPcCells D) w l xs
theorem RPieces.mono {D D' : Nat → Prop} {w w' : World} {v : Value} {l : List Pc} (h : RPieces D w v l) (hk : Keeps D w w') (hw : w.heap.size ≤ w'.heap.size) (hd : ∀ i, i < w.heap.size → D i → D' i) : RPieces D' w' v l := by
  obtain ⟨xs, h1, h2⟩ := h
  exact ⟨xs, h1.mono hk hw hd, Recs.mono (R := RPcCells D) (R' := RPcCells D') (fun _ _ h => h) l xs h2⟩
theorem RPieces.below {D : Nat → Prop} {w w' : World} {v : Value} {l : List Pc} (h : RPieces D w v l) (hb : Below w.heap.size w w') : RPieces D w' v l := h.mono (Keeps.of_below hb) hb.size fun _ _ h => h
theorem RPieces.form {D : Nat → Prop} {w : World} {v : Value} {l : List Pc} (h : RPieces D w v l) : ∃ A c, v = .slice A l.length c ∧ l.length ≤ c ∧ c ≤ maxLen := by
  obtain ⟨xs, ⟨_, A, c, rfl, h1, h2, _⟩, _⟩ := h
  exact ⟨A, c, rfl, h1, h2⟩
/-- The cells of the k-th element of a slice. -/
theorem Sl.elem {α : Type} {D : Nat → Prop} {w : World} {s : Nat} {A : Option Addr} {n c : Nat} {l : List α} {xs : List Value} {R : World → α → List Value → Prop} (h : Sl D w s (.slice A n c) l.length xs) (hr : Recs R w l xs) (hs : ∀ a c, R w a c → c.length = s) {k : Nat} {x : α} (hx : l[k]? = some x) :
    n = l.length ∧ k < n ∧ ∃ b o cs, A = some ⟨b, o, none⟩ ∧ D b ∧ b < w.heap.size ∧ R w x cs ∧ ∀ j u, cs[j]? = some u → w.cell? ⟨b, o + (k * s + j), none⟩ = some u := by
  obtain ⟨hk, rfl⟩ := List.getElem?_eq_some_iff.1 hx
  obtain ⟨hl, A', c', he, _, _, h3⟩ := h
  injection he with e1 e2 e3
  subst e1 e2 e3
  obtain ⟨b, o, rfl, hD, hb, hc⟩ := h3 (by omega)
  obtain ⟨cs, hR, hj⟩ := Recs.get hs l xs hr k hk
  refine ⟨rfl, hk, b, o, cs, rfl, hD, hb, hR, fun j u hju => hc _ u ?_⟩
  have hjs : j < s := by rw [← hs _ _ hR]; exact (List.getElem?_eq_some_iff.1 hju).1
  rw [hj j hjs]; exact hju
theorem RPieces.get {D : Nat → Prop} {w : World} {A : Option Addr} {n c : Nat} {l : List Pc} (h : RPieces D w (.slice A n c) l) {k : Nat} {p : Pc} (hx : l[k]? = some p) :
    ∃ b o, A = some ⟨b, o, none⟩ ∧ D b ∧ b < w.heap.size ∧ w.cell? ⟨b, o + k * 2, none⟩ = some (.int .i64 p.C) ∧ w.cell? ⟨b, o + k * 2 + 1, none⟩ = some (.string ⟨p.B.toArray⟩) := by
  obtain ⟨xs, h1, h2⟩ := h
  obtain ⟨-, -, b, o, cs, rfl, hD, hb, hR, hc⟩ := Sl.elem h1 h2 (fun a c h => by unfold RPcCells at h; subst h; rfl) hx
  unfold RPcCells at hR
  subst hR
  refine ⟨b, o, rfl, hD, hb, ?_, ?_⟩
  · simpa using hc 0 _ rfl
  · simpa [Nat.add_assoc] using hc 1 _ rfl

/-- What lies from B on is as it was. -/
theorem OwnRecs.above {α : Type} {R : (Nat → Prop) → World → α → List Value → Prop} (hR : RMono R) {T s : Nat} {w w' : World} {B : Nat} {v : Value} {l : List α} (h : OwnRecs R T s w B v l) (hb : ∀ i, B ≤ i → i < w.heap.size → w'.heap[i]? = w.heap[i]?) (hz : w.heap.size ≤ w'.heap.size) : OwnRecs R T s w' B v l := by
  obtain ⟨xs, ⟨hl, h1⟩, h2⟩ := h
  refine ⟨xs, ⟨hl, ?_⟩, Recs.mono (fun a c hc => hR _ _ _ _ (fun i hi hD => hb i hD.1 hi) hz (fun _ _ h => h) a c hc) l xs h2⟩
  rcases h1 with h1 | ⟨g, cap, cur, hv, hg, hh, r⟩
  · exact .inl h1
  · exact .inr ⟨g, cap, cur, hv, hg, (hb g hg (lt_of_heap hh)).trans hh, r⟩
theorem heap_alloc_at {w : World} (o : Obj) {g : Nat} (h : g = w.heap.size) : (w.alloc o).heap[g]? = some o := by subst h; exact heap_alloc_new w o
end Go.Proofs.YtolaecebfkdbcaaGreat
