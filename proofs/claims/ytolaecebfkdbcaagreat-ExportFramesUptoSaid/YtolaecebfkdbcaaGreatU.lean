/-
  Data without addresses: a small universe of types, their values, and what a value, a place or a block of memory reads as. No program in sight.
-/
import Derived.Test.YtolaecebfkdbcaaGreatBase
set_option linter.unusedVariables false
set_option linter.unusedSimpArgs false
namespace Go.Proofs.YtolaecebfkdbcaaGreat
open Go.RowKit

/-- The types of data: numbers, bytes, truth values, texts, slices, two things side by side, arrays. -/
inductive U where
  | int (k : IntKind)
  | u8
  | bool
  | str
  | adr
  | hdl
  | fn
  | sl (u : U)
  | pr (u v : U)
  | arr (n : Nat) (u : U)
/-- Their values. -/
def El : U → Type
  | .int _ => Int
  | .u8 => UInt8
  | .bool => Bool
  | .str => List UInt8
  | .adr => Option Nat
  | .hdl => Option (Nat × Nat × Nat)
  | .fn => Nat × List Nat
  | .sl u => List (El u)
  | .pr u v => El u × El v
  | .arr _ u => List (El u)
/-- How many cells. -/
def sz : U → Nat
  | .int _ => 1
  | .u8 => 1
  | .bool => 1
  | .str => 1
  | .adr => 1
  | .hdl => 1
  | .fn => 1
  | .sl _ => 1
  | .pr u v => sz u + sz v
  | .arr n u => n * sz u
def dflt : (u : U) → El u
  | .int _ => (0 : Int)
  | .u8 => (0 : UInt8)
  | .bool => false
  | .str => ([] : List UInt8)
  | .adr => (none : Option Nat)
  | .hdl => (none : Option (Nat × Nat × Nat))
  | .fn => ((0, []) : Nat × List Nat)
  | .sl _ => []
  | .pr u v => (dflt u, dflt v)
  | .arr n u => List.replicate n (dflt u)
/-- What one cell has. -/
inductive D where
  | int (k : IntKind) (n : Int)
  | lit (b : Bool)
  | bool (b : Bool)
  | str (s : List UInt8)
  | adr (x : Option Nat)
  | hdl (x : Option (Nat × Nat × Nat))
  | fn (x : Nat × List Nat)
  | lst (u : U) (xs : List (El u))
/-- The j-th cell of a value. -/
def cellU : (u : U) → El u → Nat → D
  | .int k, n, _ => .int k n
  | .u8, b, _ => .int .u8 (UInt8.toNat b : Int)
  | .bool, b, _ => .bool b
  | .str, s, _ => .str s
  | .adr, x, _ => .adr x
  | .hdl, x, _ => .hdl x
  | .fn, x, _ => .fn x
  | .sl u, xs, _ => .lst u xs
  | .pr u v, p, j => match Nat.blt j (sz u) with
    | true => cellU u p.1 j
    | false => cellU v p.2 (j - sz u)
  | .arr _ u, xs, j => cellU u (List.getD xs (j / sz u) (dflt u)) (j % sz u)
def lget {α : Type} (xs : List α) (i : Nat) : Option α := xs[i]?
def lmem {α : Type} (x : α) (xs : List α) : Prop := x ∈ xs
theorem lget_getD {α : Type} (xs : List α) (i : Nat) (d : α) (h : i < xs.length) : lget xs i = some (xs.getD i d) := by
  unfold lget
  rw [List.getD_eq_getElem?_getD, List.getElem?_eq_getElem h]
  rfl
theorem getD_lget {α : Type} {xs : List α} {i : Nat} {y : α} (d : α) (h : lget xs i = some y) : xs.getD i d = y := by
  unfold lget at h
  rw [List.getD_eq_getElem?_getD, h]
  rfl
theorem lget_lt {α : Type} {xs : List α} {i : Nat} {y : α} (h : lget xs i = some y) : i < xs.length := (List.getElem?_eq_some_iff.1 h).1
theorem lget_mem {α : Type} {xs : List α} {i : Nat} {y : α} (h : lget xs i = some y) : lmem y xs := List.mem_of_getElem? h
/-- An array has as many things as it has. -/
def WfU : (u : U) → El u → Prop
  | .pr u v, p => WfU u p.1 ∧ WfU v p.2
  | .arr n u, xs => List.length xs = n ∧ ∀ x, lmem (α := El u) x xs → WfU u x
  | _, _ => True

/-- A pointer to a block, by its number in the heap. -/
def adrP : Option Nat → Option Addr
  | none => none
  | some b => some ⟨b, 0, none⟩
/-- A slice over the whole of a row, by the row's block, its length, its room. -/
def hdlV : Option (Nat × Nat × Nat) → Value
  | none => .slice none 0 0
  | some (b, n, cap) => .slice (some ⟨b, 0, none⟩) n cap
/-- A function with what it has captured: pointers to blocks, by their numbers. -/
def ptrsV : List Nat → List Value
  | [] => []
  | b :: l => .pointer (some ⟨b, 0, none⟩) :: ptrsV l
def fnV (x : Nat × List Nat) : Value := .func (.func x.1) #[] (List.toArray (ptrsV x.2))
/-- What cells 'c' read as; the blocks that are looked into are of I. -/
def DenU (I : Nat → Prop) (w : World) : (u : U) → El u → (Nat → Option Value) → Prop
  | .int k, n, c => c 0 = some (.int k n)
  | .u8, b, c => c 0 = some (.int .u8 (UInt8.toNat b : Int))
  | .bool, b, c => c 0 = some (.bool b)
  | .str, s, c => c 0 = some (.string ⟨List.toArray s⟩)
  | .adr, x, c => c 0 = some (.pointer (adrP x))
  | .hdl, x, c => c 0 = some (hdlV x)
  | .fn, x, c => c 0 = some (fnV x)
  | .sl u, xs, c => ∃ A cap, c 0 = some (.slice A (List.length xs) cap) ∧ List.length xs ≤ cap ∧ cap ≤ maxLen ∧
      (0 < List.length xs → ∃ b o, A = some ⟨b, o, none⟩ ∧ I b ∧ ∀ i x, lget (α := El u) xs i = some x → DenU I w u x (fun j => w.cell? ⟨b, o + (i * sz u + j), none⟩))
  | .pr u v, p, c => DenU I w u p.1 c ∧ DenU I w v p.2 (fun j => c (sz u + j))
  | .arr n u, xs, c => List.length xs = n ∧ ∀ i x, lget (α := El u) xs i = some x → DenU I w u x (fun j => c (i * sz u + j))
def Den (I : Nat → Prop) (w : World) : D → Value → Prop
  | .int k n, v => v = .int k n
  | .lit b, v => v = .bool b
  | .bool b, v => v = .bool b
  | .str s, v => v = .string ⟨s.toArray⟩
  | .adr x, v => v = .pointer (adrP x)
  | .hdl x, v => v = hdlV x
  | .fn x, v => v = fnV x
  | .lst u xs, v => DenU I w (.sl u) xs (fun _ => some v)

/-- Blocks that are as they were. -/
def Ext (I : Nat → Prop) (w : World) (I' : Nat → Prop) (w' : World) : Prop := ∀ b, I b → I' b ∧ w'.heap[b]? = w.heap[b]?
section
variable {I I' : Nat → Prop} {w w' : World}
theorem Ext.refl (I : Nat → Prop) (w : World) : Ext I w I w := fun _ h => ⟨h, rfl⟩
theorem Ext.trans {I'' : Nat → Prop} {w'' : World} (h : Ext I w I' w') (k : Ext I' w' I'' w'') : Ext I w I'' w'' := fun b hb => ⟨(k b (h b hb).1).1, (k b (h b hb).1).2.trans (h b hb).2⟩
theorem cell_ext {b o : Nat} {v : Value} (h : w'.heap[b]? = w.heap[b]?) (hc : w.cell? ⟨b, o, none⟩ = some v) : w'.cell? ⟨b, o, none⟩ = some v :=
  (World.cell?_of_block (a := ⟨b, o, none⟩) h).trans hc
theorem DenU.mono (he : Ext I w I' w') : ∀ (u : U) (x : El u) (c c' : Nat → Option Value), (∀ j v, c j = some v → c' j = some v) → DenU I w u x c → DenU I' w' u x c' := by
  intro u
  induction u with
  | int k => exact fun x c c' hc h => hc _ _ h
  | u8 => exact fun x c c' hc h => hc _ _ h
  | bool => exact fun x c c' hc h => hc _ _ h
  | str => exact fun x c c' hc h => hc _ _ h
  | adr => exact fun x c c' hc h => hc _ _ h
  | hdl => exact fun x c c' hc h => hc _ _ h
  | fn => exact fun x c c' hc h => hc _ _ h
  | sl u ih =>
    rintro x c c' hc ⟨A, cap, h0, h1, h2, h3⟩
    refine ⟨A, cap, hc _ _ h0, h1, h2, fun hl => ?_⟩
    obtain ⟨b, o, hA, hI, hx⟩ := h3 hl
    exact ⟨b, o, hA, (he b hI).1, fun i y hy => ih _ _ _ (fun j v hv => cell_ext (he b hI).2 hv) (hx i y hy)⟩
  | pr u v ih1 ih2 => exact fun x c c' hc h => ⟨ih1 _ _ _ hc h.1, ih2 _ _ _ (fun j v hv => hc _ _ hv) h.2⟩
  | arr n u ih => exact fun x c c' hc h => ⟨h.1, fun i y hy => ih _ _ _ (fun j v hv => hc _ _ hv) (h.2 i y hy)⟩
theorem Den.mono (he : Ext I w I' w') : ∀ (x : D) (v : Value), Den I w x v → Den I' w' x v
  | .int _ _, _, h => h
  | .lit _, _, h => h
  | .bool _, _, h => h
  | .str _, _, h => h
  | .adr _, _, h => h
  | .hdl _, _, h => h
  | .fn _, _, h => h
  | .lst u xs, v, h => DenU.mono he (.sl u) xs (fun _ => some v) (fun _ => some v) (fun _ _ h => h) h
theorem sz_div {j n s : Nat} (h : j < n * s) : j / s < n ∧ j % s < s ∧ j / s * s + j % s = j := by
  have hs : 0 < s := by
    rcases Nat.eq_zero_or_pos s with h0 | h0
    · subst h0; simp at h
    · exact h0
  exact ⟨(Nat.div_lt_iff_lt_mul hs).2 h, Nat.mod_lt _ hs, by rw [Nat.mul_comm]; exact Nat.div_add_mod j s⟩
/-- Each cell reads as its part. -/
theorem DenU.cell : ∀ (u : U) (x : El u) (c : Nat → Option Value) (j : Nat), DenU I w u x c → j < sz u → ∃ v, c j = some v ∧ Den I w (cellU u x j) v := by
  intro u
  induction u with
  | int k => exact fun x c j h hj => ⟨_, (by have : j = 0 := by simp [sz] at hj; exact hj
                                             subst this; exact h), rfl⟩
  | u8 => exact fun x c j h hj => ⟨_, (by have : j = 0 := by simp [sz] at hj; exact hj
                                          subst this; exact h), rfl⟩
  | bool => exact fun x c j h hj => ⟨_, (by have : j = 0 := by simp [sz] at hj; exact hj
                                            subst this; exact h), rfl⟩
  | str => exact fun x c j h hj => ⟨_, (by have : j = 0 := by simp [sz] at hj; exact hj
                                           subst this; exact h), rfl⟩
  | adr => exact fun x c j h hj => ⟨_, (by have : j = 0 := by simp [sz] at hj; exact hj
                                           subst this; exact h), rfl⟩
  | hdl => exact fun x c j h hj => ⟨_, (by have : j = 0 := by simp [sz] at hj; exact hj
                                           subst this; exact h), rfl⟩
  | fn => exact fun x c j h hj => ⟨_, (by have : j = 0 := by simp [sz] at hj; exact hj
                                          subst this; exact h), rfl⟩
  | sl u _ =>
    intro x c j h hj
    have : j = 0 := by simp [sz] at hj; exact hj
    subst this
    obtain ⟨A, cap, h0, h1⟩ := h
    exact ⟨_, h0, A, cap, rfl, h1⟩
  | pr u v ih1 ih2 =>
    intro x c j h hj
    simp only [sz] at hj
    unfold cellU
    by_cases hlt : j < sz u
    · rw [show Nat.blt j (sz u) = true by simpa [Nat.blt_eq] using hlt]
      exact ih1 _ _ _ h.1 hlt
    · rw [show Nat.blt j (sz u) = false by rw [Bool.eq_false_iff]; simpa [Nat.blt_eq] using hlt]
      have := ih2 _ _ (j - sz u) h.2 (by omega)
      rwa [show sz u + (j - sz u) = j by omega] at this
  | arr n u ih =>
    intro x c j h hj
    obtain ⟨e1, e2, e3⟩ := sz_div (by simpa [sz] using hj)
    have hl : j / sz u < List.length x := by rw [h.1]; exact e1
    have hg : lget (α := El u) x (j / sz u) = some (List.getD x (j / sz u) (dflt u)) := lget_getD (α := El u) x _ _ hl
    have := ih _ _ (j % sz u) (h.2 _ _ hg) e2
    rw [e3] at this
    exact this
/-- And so back. -/
theorem DenU.mk : ∀ (u : U) (x : El u) (c : Nat → Option Value), WfU u x → (∀ j, j < sz u → ∃ v, c j = some v ∧ Den I w (cellU u x j) v) → DenU I w u x c := by
  intro u
  induction u with
  | int k => intro x c _ h; obtain ⟨v, h1, h2⟩ := h 0 (by simp [sz]); rw [show v = _ from h2] at h1; exact h1
  | u8 => intro x c _ h; obtain ⟨v, h1, h2⟩ := h 0 (by simp [sz]); rw [show v = _ from h2] at h1; exact h1
  | bool => intro x c _ h; obtain ⟨v, h1, h2⟩ := h 0 (by simp [sz]); rw [show v = _ from h2] at h1; exact h1
  | str => intro x c _ h; obtain ⟨v, h1, h2⟩ := h 0 (by simp [sz]); rw [show v = _ from h2] at h1; exact h1
  | hdl => intro x c _ h; obtain ⟨v, h1, h2⟩ := h 0 (by simp [sz]); rw [show v = _ from h2] at h1; exact h1
  | fn => intro x c _ h; obtain ⟨v, h1, h2⟩ := h 0 (by simp [sz]); rw [show v = _ from h2] at h1; exact h1
  | adr => intro x c _ h; obtain ⟨v, h1, h2⟩ := h 0 (by simp [sz]); rw [show v = _ from h2] at h1; exact h1
  | sl u _ =>
    intro x c _ h
    obtain ⟨v, h1, A, cap, h2, h3⟩ := h 0 (by simp [sz])
    exact ⟨A, cap, h1.trans h2, h3⟩
  | pr u v ih1 ih2 =>
    intro x c hw h
    refine ⟨ih1 _ _ hw.1 fun j hj => ?_, ih2 _ _ hw.2 fun j hj => ?_⟩
    · obtain ⟨v, h1, h2⟩ := h j (by simp only [sz]; omega)
      unfold cellU at h2
      rw [show Nat.blt j (sz u) = true by simpa [Nat.blt_eq] using hj] at h2
      exact ⟨v, h1, h2⟩
    · obtain ⟨v', h1, h2⟩ := h (sz u + j) (by simp only [sz]; omega)
      unfold cellU at h2
      rw [show Nat.blt (sz u + j) (sz u) = false by rw [Bool.eq_false_iff]; simp [Nat.blt_eq]] at h2
      rw [show sz u + j - sz u = j by omega] at h2
      exact ⟨v', h1, h2⟩
  | arr n u ih =>
    intro x c hw h
    refine ⟨hw.1, fun i y hy => ih _ _ (hw.2 y (lget_mem (α := El u) hy)) fun j hj => ?_⟩
    have hi : i < List.length x := lget_lt (α := El u) hy
    have hin : i < n := by rw [← hw.1]; exact hi
    have hlt : i * sz u + j < n * sz u := by
      have := Nat.mul_le_mul_right (sz u) hin
      rw [Nat.succ_mul] at this
      omega
    obtain ⟨v, h1, h2⟩ := h (i * sz u + j) hlt
    unfold cellU at h2
    have e1 : (i * sz u + j) / sz u = i := by
      rw [Nat.mul_comm, Nat.mul_add_div (by omega), Nat.div_eq_of_lt hj, Nat.add_zero]
    have e2 : (i * sz u + j) % sz u = j := by
      rw [Nat.mul_comm, Nat.mul_add_mod, Nat.mod_eq_of_lt hj]
    rw [e1, e2] at h2
    rw [show List.getD x i (dflt u) = y from getD_lget (α := El u) _ hy] at h2
    exact ⟨v, h1, h2⟩
end

/-- A place: a block, and the slice over it where it is one. -/
structure Pl where
  blk : Nat
  A : Option Addr
  n : Nat
  cap : Nat
def Pl.hdr (p : Pl) : Value := .slice p.A p.n p.cap
/-- What a function value has caught. -/
inductive Cap where
  | p (c off : Nat)
  | d (x : D)
/-- What one cell or slot has: data; a pointer into a block that is known by number; a slice over such a block; a pointer into data. -/
inductive S1 where
  | d (x : D)
  | ptr (c off : Nat)
  | own (c : Nat)
  | el (u : U) (x : El u) (off : Nat)
  | rp (c s i off : Nat)
  | os (c s off n : Nat)
  | mp (c : Nat)
  | clo (f : FuncId) (l : List Cap)
  | nils
  | raw (v : Value)
  | any
inductive SC where
  | one (s : S1)
  | agg (l : List S1)
  | dat (u : U) (x : El u)
inductive SV where
  | c (x : SC)
  | tup (l : List SC)
  | undef
/-- Something of a block's own, told by whoever states it. -/
structure Ob where
  R : (Nat → Prop) → (Nat → Prop) → World → Pl → Prop
  stable : ∀ (I F : Nat → Prop) (w : World) (I' : Nat → Prop) (w' : World) (p : Pl), R I F w p → Ext I w I' w' → (∀ b, F b → w'.heap[b]? = w.heap[b]?) → w.heap.size ≤ w'.heap.size → R I' F w' p
/-- What a block of the call's own is. -/
inductive Ch where
  | cells (l : List S1)
  | row (e : TypeId) (u : U) (xs : List (El u))
  | map (ku vu : U) (es : List (El ku × El vu))
  | val (u : U) (x : El u)
  | obj (o : Ob)
  | dep (d : Nat) (o : Pl → Ob)

def DenCap (ρ : Nat → Pl) (I : Nat → Prop) (w : World) : Cap → Value → Prop
  | .p c off, v => v = .pointer (some ⟨(ρ c).blk, off, none⟩)
  | .d x, v => Den I w x v
def DenCaps (ρ : Nat → Pl) (I : Nat → Prop) (w : World) : List Cap → List Value → Prop
  | [], vs => vs = []
  | s :: l, vs => ∃ v r, vs = v :: r ∧ DenCap ρ I w s v ∧ DenCaps ρ I w l r
def DenS (ρ : Nat → Pl) (I : Nat → Prop) (w : World) : S1 → Value → Prop
  | .d x, v => Den I w x v
  | .ptr c off, v => v = .pointer (some ⟨(ρ c).blk, off, none⟩)
  | .own c, v => v = (ρ c).hdr
  | .el u x off, v => ∃ b o, v = .pointer (some ⟨b, o + off, none⟩) ∧ I b ∧ DenU I w u x (fun j => w.cell? ⟨b, o + j, none⟩)
  | .rp c s i off, v => v = .pointer (some ⟨(ρ c).blk, i * s + off, none⟩)
  | .os c s off n, v => v = .slice (if (ρ c).cap = off then (ρ c).A else (ρ c).A.map (·.add (off * s))) n ((ρ c).cap - off)
  | .mp c, v => v = .map (some (ρ c).blk)
  | .clo f l, v => ∃ vs, v = .func (.func f) #[] (List.toArray vs) ∧ DenCaps ρ I w l vs
  | .nils, v => v = .slice none 0 0
  | .raw u, v => v = u
  | .any, _ => True
def DenL (ρ : Nat → Pl) (I : Nat → Prop) (w : World) : List S1 → List Value → Prop
  | [], vs => vs = []
  | s :: l, vs => ∃ v r, vs = v :: r ∧ DenS ρ I w s v ∧ DenL ρ I w l r
def DenC (ρ : Nat → Pl) (I : Nat → Prop) (w : World) : SC → Value → Prop
  | .one s, v => DenS ρ I w s v
  | .agg l, v => ∃ vs, v = .agg (List.toArray vs) ∧ DenL ρ I w l vs
  | .dat u x, v => ∃ vs, v = .agg (List.toArray vs) ∧ vs.length = sz u ∧ DenU I w u x (fun j => vs[j]?)
def DenCL (ρ : Nat → Pl) (I : Nat → Prop) (w : World) : List SC → List Value → Prop
  | [], vs => vs = []
  | s :: l, vs => ∃ v r, vs = v :: r ∧ DenC ρ I w s v ∧ DenCL ρ I w l r
def DenV (ρ : Nat → Pl) (I : Nat → Prop) (w : World) : SV → Value → Prop
  | .c x, v => DenC ρ I w x v
  | .tup l, v => ∃ vs, v = .tuple (List.toArray vs) ∧ DenCL ρ I w l vs
  | .undef, v => v = Go.undef
/-- A key of a map as a value. -/
def keyV : (u : U) → El u → Value
  | .int k, n => .int k n
  | .str, s => .string ⟨List.toArray s⟩
  | _, _ => .nilFunc
/-- Has the type's value the form that u's has: one cell, or several? -/
def oneU : U → Bool
  | .pr _ _ => false
  | .arr _ _ => false
  | _ => true
/-- A value of a map: one cell, or several. -/
def DenE (I : Nat → Prop) (w : World) (u : U) (x : El u) (v : Value) : Prop := v.cells.size = sz u ∧ ((oneU u = true → v.cells = #[v]) ∧ (oneU u = false → ∃ cs, v = .agg cs)) ∧ DenU I w u x (fun j => v.cells.toList[j]?)
def MapU (I : Nat → Prop) (w : World) (ku vu : U) : List (El ku × El vu) → List MapEntry → Prop
  | [], es => es = []
  | p :: l, es => ∃ e r, es = e :: r ∧ e.key = keyV ku p.1 ∧ DenE I w vu p.2 e.val ∧ MapU I w ku vu l r
/-- The entries' births rise, below the clock. -/
def Births (es : List MapEntry) (clock : Nat) : Prop := (es.map (·.born)).Pairwise (· < ·) ∧ ∀ e, e ∈ es → e.born < clock
/-- Rows of data. -/
def RecsU (I : Nat → Prop) (w : World) (u : U) (xs : List (El u)) (cs : List Value) : Prop := ∀ i x, xs[i]? = some x → DenU I w u x (fun j => cs[i * sz u + j]?)
def Holds (ρ : Nat → Pl) (I F : Nat → Prop) (w : World) (p : Pl) : Ch → Prop
  | .cells l => (∀ b, F b ↔ b = p.blk) ∧ ∃ vs T, w.heap[p.blk]? = some (.cells (List.toArray vs) T (0, 0)) ∧ DenL ρ I w l vs
  | .row e u xs => (∀ b, F b ↔ p.hdr.ownBlock = some b) ∧ (∀ b, p.hdr.ownBlock = some b → b = p.blk) ∧ ∃ cs, w.ownsRow 0 e (sz u) p.hdr xs.length cs ∧ RecsU I w u xs cs
  | .map ku vu es => (∀ b, F b ↔ b = p.blk) ∧ ∃ ents clock, w.heap[p.blk]? = some (.map (List.toArray ents) clock) ∧ MapU I w ku vu es ents ∧ Births ents clock
  | .val u x => (∀ b, F b ↔ b = p.blk) ∧ ∃ vs T, w.heap[p.blk]? = some (.cells (List.toArray vs) T (0, 0)) ∧ vs.length = sz u ∧ DenU I w u x (fun j => vs[j]?)
  | .obj o => o.R I F w p
  | .dep d o => (o (ρ d)).R I F w p

/-! ### which numbers of blocks are named -/
def capsHave (c : Nat) : List Cap → Bool
  | [] => false
  | .p b _ :: l => Nat.beq b c || capsHave c l
  | .d _ :: l => capsHave c l
def S1.has (c : Nat) : S1 → Bool
  | .ptr b _ => Nat.beq b c
  | .own b => Nat.beq b c
  | .rp b _ _ _ => Nat.beq b c
  | .os b _ _ _ => Nat.beq b c
  | .mp b => Nat.beq b c
  | .clo _ l => capsHave c l
  | _ => false
def hasL (c : Nat) : List S1 → Bool
  | [] => false
  | s :: l => s.has c || hasL c l
def SC.has (c : Nat) : SC → Bool
  | .one s => s.has c
  | .agg l => hasL c l
  | .dat _ _ => false
def hasCL (c : Nat) : List SC → Bool
  | [] => false
  | s :: l => s.has c || hasCL c l
def SV.has (c : Nat) : SV → Bool
  | .c x => x.has c
  | .tup l => hasCL c l
  | .undef => false
def Ch.has (c : Nat) : Ch → Bool
  | .cells l => hasL c l
  | .dep d _ => Nat.beq d c
  | _ => false
section
variable {ρ ρ' : Nat → Pl} {I I' : Nat → Prop} {w w' : World}
theorem DenCaps.mono (he : Ext I w I' w') : ∀ (l : List Cap) (vs : List Value), (∀ c, capsHave c l = true → ρ' c = ρ c) → DenCaps ρ I w l vs → DenCaps ρ' I' w' l vs
  | [], _, _, h => h
  | .p b o :: l, _, hρ, ⟨v, r, e, h1, h2⟩ => ⟨v, r, e, (by have e := hρ b (by simp [capsHave]); simp only [DenCap] at *; rw [e]; exact h1), DenCaps.mono he l r (fun c hc => hρ c (by simp [capsHave, hc])) h2⟩
  | .d x :: l, _, hρ, ⟨v, r, e, h1, h2⟩ => ⟨v, r, e, Den.mono he x v h1, DenCaps.mono he l r (fun c hc => hρ c (by simpa [capsHave] using hc)) h2⟩
/-- ρ' places whatever s names as ρ does. -/
theorem DenS.mono (he : Ext I w I' w') (s : S1) (v : Value) (hρ : ∀ c, s.has c = true → ρ' c = ρ c) (h : DenS ρ I w s v) : DenS ρ' I' w' s v := by
  cases s with
  | d x => exact Den.mono he x v h
  | ptr c off =>
    have e := hρ c (by simp [S1.has, Nat.beq_eq])
    simp only [DenS] at *
    rw [e]
    exact h
  | own c =>
    have e := hρ c (by simp [S1.has, Nat.beq_eq])
    simp only [DenS] at *
    rw [e]
    exact h
  | el u x off =>
    obtain ⟨b, o, h1, h2, h3⟩ := h
    exact ⟨b, o, h1, (he b h2).1, DenU.mono he u x _ _ (fun j v hv => cell_ext (he b h2).2 hv) h3⟩
  | rp c s i off =>
    have e := hρ c (by simp [S1.has, Nat.beq_eq])
    simp only [DenS] at *
    rw [e]
    exact h
  | os c s off n =>
    have e := hρ c (by simp [S1.has, Nat.beq_eq])
    simp only [DenS] at *
    rw [e]
    exact h
  | mp c =>
    have e := hρ c (by simp [S1.has, Nat.beq_eq])
    simp only [DenS] at *
    rw [e]
    exact h
  | clo f l => obtain ⟨vs, e, h⟩ := h; exact ⟨vs, e, DenCaps.mono he l vs hρ h⟩
  | nils => exact h
  | raw u => exact h
  | any => trivial
theorem DenL.mono (he : Ext I w I' w') : ∀ (l : List S1) (vs : List Value), (∀ c, hasL c l = true → ρ' c = ρ c) → DenL ρ I w l vs → DenL ρ' I' w' l vs
  | [], _, _, h => h
  | s :: l, _, hρ, ⟨v, r, e, h1, h2⟩ => ⟨v, r, e, DenS.mono he s v (fun c hc => hρ c (by simp [hasL, hc])) h1, DenL.mono he l r (fun c hc => hρ c (by simp [hasL, hc])) h2⟩
theorem DenC.mono (he : Ext I w I' w') (s : SC) (v : Value) (hρ : ∀ c, s.has c = true → ρ' c = ρ c) (h : DenC ρ I w s v) : DenC ρ' I' w' s v := by
  cases s with
  | one s => exact DenS.mono he s v hρ h
  | agg l => obtain ⟨vs, e, h⟩ := h; exact ⟨vs, e, DenL.mono he l vs hρ h⟩
  | dat u x => obtain ⟨vs, e, h1, h2⟩ := h; exact ⟨vs, e, h1, DenU.mono he u x _ _ (fun _ _ h => h) h2⟩
theorem DenCL.mono (he : Ext I w I' w') : ∀ (l : List SC) (vs : List Value), (∀ c, hasCL c l = true → ρ' c = ρ c) → DenCL ρ I w l vs → DenCL ρ' I' w' l vs
  | [], _, _, h => h
  | s :: l, _, hρ, ⟨v, r, e, h1, h2⟩ => ⟨v, r, e, DenC.mono he s v (fun c hc => hρ c (by simp [hasCL, hc])) h1, DenCL.mono he l r (fun c hc => hρ c (by simp [hasCL, hc])) h2⟩
theorem DenV.mono (he : Ext I w I' w') (s : SV) (v : Value) (hρ : ∀ c, s.has c = true → ρ' c = ρ c) (h : DenV ρ I w s v) : DenV ρ' I' w' s v := by
  cases s with
  | c s => exact DenC.mono he s v hρ h
  | tup l => obtain ⟨vs, e, h⟩ := h; exact ⟨vs, e, DenCL.mono he l vs hρ h⟩
  | undef => exact h
theorem RecsU.mono (he : Ext I w I' w') {u : U} {xs : List (El u)} {cs : List Value} (h : RecsU I w u xs cs) : RecsU I' w' u xs cs := fun i x hx => DenU.mono he u x _ _ (fun _ _ h => h) (h i x hx)
theorem DenE.mono (he : Ext I w I' w') {u : U} {x : El u} {v : Value} (h : DenE I w u x v) : DenE I' w' u x v := ⟨h.1, h.2.1, DenU.mono he u x _ _ (fun _ _ h => h) h.2.2⟩
theorem MapU.mono (he : Ext I w I' w') {ku vu : U} : ∀ {l : List (El ku × El vu)} {es : List MapEntry}, MapU I w ku vu l es → MapU I' w' ku vu l es
  | [], _, h => h
  | _ :: _, _, ⟨e, r, h0, h1, h2, h3⟩ => ⟨e, r, h0, h1, h2.mono he, h3.mono he⟩
theorem ownsRow_block {e s n : Nat} {v : Value} {cs : List Value} (h : w.ownsRow 0 e s v n cs) (hb : ∀ b, v.ownBlock = some b → w'.heap[b]? = w.heap[b]?) : w'.ownsRow 0 e s v n cs := by
  refine ⟨h.1, ?_⟩
  rcases h.2 with h | ⟨g, cap, cur, hv, h0, hg, r⟩
  · exact .inl h
  · exact .inr ⟨g, cap, cur, hv, h0, (hb g (by rw [hv]; rfl)).trans hg, r⟩
theorem Holds.stable (he : Ext I w I' w') {F : Nat → Prop} (hF : ∀ b, F b → w'.heap[b]? = w.heap[b]?) (hz : w.heap.size ≤ w'.heap.size) {p : Pl} : ∀ (ch : Ch), (∀ c, ch.has c = true → ρ' c = ρ c) → Holds ρ I F w p ch → Holds ρ' I' F w' p ch
  | .cells l, hρ, ⟨h1, vs, T, h2, h3⟩ => ⟨h1, vs, T, (hF _ ((h1 _).2 rfl)).trans h2, DenL.mono he l vs hρ h3⟩
  | .row e u xs, _, ⟨h1, h2, cs, h3, h4⟩ => ⟨h1, h2, cs, ownsRow_block h3 fun b hb => hF b ((h1 b).2 hb), h4.mono he⟩
  | .map ku vu es, _, ⟨h1, ents, clock, h2, h3, h4⟩ => ⟨h1, ents, clock, (hF _ ((h1 _).2 rfl)).trans h2, h3.mono he, h4⟩
  | .val u x, _, ⟨h1, vs, T, h2, h3, h4⟩ => ⟨h1, vs, T, (hF _ ((h1 _).2 rfl)).trans h2, h3, DenU.mono he u x _ _ (fun _ _ h => h) h4⟩
  | .obj o, _, h => o.stable _ _ _ _ _ _ h he hF hz
  | .dep d o, hρ, h => by
    have e := hρ d (by simp [Ch.has])
    simp only [Holds] at *
    rw [e]
    exact (o (ρ d)).stable _ _ _ _ _ _ h he hF hz
end
end Go.Proofs.YtolaecebfkdbcaaGreat
/-
  States: what the slots have, and what the blocks of the call's own are. When a frame and a world are as a state says; the steps from one to the next.
-/
set_option linter.unusedVariables false
set_option linter.unusedSimpArgs false
namespace Go.Proofs.YtolaecebfkdbcaaGreat
open Go.RowKit

abbrev KL := List (Nat × SV)
abbrev BL := List (Nat × Ch)
def look : KL → Nat → SV
  | [], _ => .c (.one .any)
  | (t, v) :: K, s => match Nat.beq t s with
    | true => v
    | false => look K s
def lookB : BL → Nat → Option Ch
  | [], _ => none
  | (t, v) :: B, s => match Nat.beq t s with
    | true => some v
    | false => lookB B s
/-- A block is given up. -/
def dropB : BL → Nat → BL
  | [], _ => []
  | (t, v) :: B, s => match Nat.beq t s with
    | true => dropB B s
    | false => (t, v) :: dropB B s
theorem lookB_dropB (B : BL) (c d : Nat) : lookB (dropB B c) d = if c = d then none else lookB B d := by
  induction B with
  | nil => simp [dropB, lookB]
  | cons x B ih =>
    obtain ⟨t, v⟩ := x
    unfold dropB
    by_cases h : Nat.beq t c = true
    · have e := Nat.eq_of_beq_eq_true h
      subst e
      rw [h]
      simp only [ih]
      split
      · rfl
      · rename_i hne
        simp only [lookB]
        rw [show Nat.beq t d = false by rw [Bool.eq_false_iff]; intro h; exact hne (Nat.eq_of_beq_eq_true h)]
    · rw [Bool.not_eq_true] at h
      rw [h]
      simp only [lookB]
      by_cases h2 : Nat.beq t d = true
      · have e := Nat.eq_of_beq_eq_true h2
        subst e
        rw [if_neg (fun e => by subst e; simp at h)]
        rw [h2]
      · rw [Bool.not_eq_true] at h2
        rw [h2]
        simpa using ih
theorem lookB_cons (B : BL) (c : Nat) (ch : Ch) (d : Nat) : lookB ((c, ch) :: B) d = if c = d then some ch else lookB B d := by
  simp only [lookB]
  by_cases h : c = d
  · subst h; simp
  · rw [if_neg h, show Nat.beq c d = false by rw [Bool.eq_false_iff]; intro e; exact h (Nat.eq_of_beq_eq_true e)]
theorem look_cons (K : KL) (c : Nat) (v : SV) (d : Nat) : look ((c, v) :: K) d = if c = d then v else look K d := by
  rw [look.eq_def]
  by_cases h : c = d
  · subst h; simp
  · simp only [if_neg h, show Nat.beq c d = false by rw [Bool.eq_false_iff]; intro e; exact h (Nat.eq_of_beq_eq_true e)]

/-- The slot s has v. -/
def At (a : Act) (s : Nat) (v : Value) : Prop := a.tmps.getD s undef = v
theorem At.eval {a : Act} {s : Nat} {v : Value} (h : At a s v) : a.eval (.tmp s) = v := h
theorem at_put_same {a : Act} {d : Nat} {v : Value} (h : d < a.tmps.size) : At (a.put (some d) v) d v := by simp [At, Act.put, h]
theorem at_put_other {a : Act} {d s : Nat} {v : Value} (h : d ≠ s) : a.tmps.getD s undef = (a.put (some d) v).tmps.getD s undef := by
  simp [Act.put, Array.getElem?_setIfInBounds_ne h]
theorem put_size {a : Act} {d : Option Nat} {v : Value} : (a.put d v).tmps.size = a.tmps.size := by cases d <;> simp [Act.put]
theorem put_defers {a : Act} {d : Option Nat} {v : Value} : (a.put d v).defers = a.defers := by cases d <;> simp [Act.put]

/-- Where a call begins: its world, the data that it may look into, the blocks that it was given, where they lie. -/
structure Ctx where
  w0 : World
  I0 : Nat → Prop
  F0 : Nat → Prop
  ρ0 : Nat → Pl
  ds : List Nat
/-- The mark that a range over a function leaves: the block for its rounds' deferred calls. -/
def markD (D : Nat) : Deferred := { target := .collected D, args := #[] }
/-- The blocks that nobody writes. -/
def Imm (C : Ctx) (B : BL) (F : Nat → Nat → Prop) (w : World) : Nat → Prop := fun b =>
  b < w.heap.size ∧ (C.I0 b ∨ C.F0 b ∨ C.w0.heap.size ≤ b ∧ b ∉ C.ds) ∧ ∀ c ch, lookB B c = some ch → ¬ F c b
structure Mem (ids : List Nat) (C : Ctx) (B : BL) (ρ : Nat → Pl) (F : Nat → Nat → Prop) (w : World) : Prop where
  fr : Fr C.F0 C.w0 w
  holds : ∀ c ch, lookB B c = some ch → Holds ρ (Imm C B F w) (F c) w (ρ c) ch
  own : ∀ c ch, lookB B c = some ch → ∀ b, F c b → b < w.heap.size ∧ (C.F0 b ∨ C.w0.heap.size ≤ b ∧ b ∉ C.ds)
  disj : ∀ c c' ch ch' b, lookB B c = some ch → lookB B c' = some ch' → c ≠ c' → F c b → ¬ F c' b
  keep : ∀ c, c ∈ ids → ρ c = C.ρ0 c
  marks : C.ds.Nodup ∧ (∀ b, C.I0 b ∨ C.F0 b → b < C.w0.heap.size) ∧ ∀ D, D ∈ C.ds → D < w.heap.size ∧ w.heap[D]? = some (.deferred (some [])) ∧ C.w0.heap.size ≤ D
def Slots (K : KL) (ρ : Nat → Pl) (I : Nat → Prop) (a : Act) (w : World) : Prop := ∀ s, DenV ρ I w (look K s) (a.tmps.getD s undef)
def Sat (N : Nat) (ids : List Nat) (C : Ctx) (K : KL) (B : BL) (a : Act) (w : World) : Prop :=
  a.tmps.size = N ∧ a.defers = C.ds.map markD ∧ ∃ ρ F, Mem ids C B ρ F w ∧ Slots K ρ (Imm C B F w) a w

/-- A block that is new now. -/
theorem Mem.fresh {ids : List Nat} {C : Ctx} {B : BL} {ρ : Nat → Pl} {F : Nat → Nat → Prop} {w : World} (h : Mem ids C B ρ F w) {b : Nat} (hb : w.heap.size ≤ b) : C.w0.heap.size ≤ b ∧ b ∉ C.ds :=
  ⟨Nat.le_trans h.fr.size hb, fun hd => by have := (h.marks.2.2 b hd).1; omega⟩
/-- The step from one memory to the next: the blocks whose numbers are of M are given up, turned, or made; ρ turns for those of Nw alone, which nothing else names. -/
theorem Mem.step {ids : List Nat} {C : Ctx} {B B' : BL} {ρ ρ' : Nat → Pl} {F F' : Nat → Nat → Prop} {w w' : World} (h : Mem ids C B ρ F w) (M Nw : Nat → Prop)
    (hfr : Fr (fun b => ∃ c ch, lookB B c = some ch ∧ M c ∧ F c b) w w')
    (old : ∀ c ch, lookB B' c = some ch → ¬ M c → lookB B c = some ch)
    (hρ : ∀ c, ¬ Nw c → ρ' c = ρ c) (hF : ∀ c, ¬ M c → F' c = F c) (hids : ∀ c, c ∈ ids → ¬ Nw c)
    (hnw : ∀ c, Nw c → M c)
    (named : ∀ c ch, lookB B c = some ch → ¬ M c → ∀ d, ch.has d = true → ¬ Nw d)
    (new : ∀ c ch, lookB B' c = some ch → M c → Ext (Imm C B F w) w (Imm C B' F' w') w' → Holds ρ' (Imm C B' F' w') (F' c) w' (ρ' c) ch)
    (newF : ∀ c ch, lookB B' c = some ch → M c → ∀ b, F' c b → b < w'.heap.size ∧ ((∃ c0 ch0, lookB B c0 = some ch0 ∧ M c0 ∧ F c0 b) ∨ w.heap.size ≤ b))
    (newD : ∀ c c' ch ch' b, lookB B' c = some ch → lookB B' c' = some ch' → M c → M c' → c ≠ c' → F' c b → ¬ F' c' b) :
    Mem ids C B' ρ' F' w' ∧ Ext (Imm C B F w) w (Imm C B' F' w') w' := by
  have hz := h.fr.size
  have hext : Ext (Imm C B F w) w (Imm C B' F' w') w' := by
    rintro b ⟨h1, h2, h3⟩
    refine ⟨⟨Nat.lt_of_lt_of_le h1 hfr.size, h2, fun c ch hc => ?_⟩, hfr.block b h1 ?_⟩
    · by_cases hM : M c
      · intro hb
        obtain ⟨_, hb'⟩ := newF c ch hc hM b hb
        rcases hb' with ⟨c0, ch0, e1, _, e2⟩ | hb'
        · exact h3 c0 ch0 e1 e2
        · omega
      · rw [hF c hM]
        exact h3 c ch (old c ch hc hM)
    · rintro ⟨c, ch, e1, _, e2⟩
      exact h3 c ch e1 e2
  have hframe : ∀ c ch, lookB B c = some ch → ¬ M c → ∀ b, F c b → w'.heap[b]? = w.heap[b]? := fun c ch hc hM b hb =>
    hfr.block b (h.own c ch hc b hb).1 (by
      rintro ⟨c0, ch0, e1, e2, e3⟩
      exact h.disj c c0 ch ch0 b hc e1 (fun e => hM (e ▸ e2)) hb e3)
  refine ⟨⟨?_, ?_, ?_, ?_, ?_, ?_⟩, hext⟩
  · refine h.fr.trans hfr ?_
    rintro b hb ⟨c, ch, e1, _, e2⟩
    rcases (h.own c ch e1 b e2).2 with h' | h'
    · exact h'
    · have := h'.1; omega
  · intro c ch hc
    by_cases hM : M c
    · exact new c ch hc hM hext
    · have ho := old c ch hc hM
      rw [hF c hM, hρ c (fun hn => hM (hnw c hn))]
      exact Holds.stable hext (hframe c ch ho hM) hfr.size ch (fun d hd => hρ d (named c ch ho hM d hd)) (h.holds c ch ho)
  · intro c ch hc b hb
    by_cases hM : M c
    · obtain ⟨h1, h2⟩ := newF c ch hc hM b hb
      refine ⟨h1, ?_⟩
      rcases h2 with ⟨c0, ch0, e1, _, e2⟩ | h2
      · exact (h.own c0 ch0 e1 b e2).2
      · exact .inr (h.fresh h2)
    · rw [hF c hM] at hb
      obtain ⟨h1, h2⟩ := h.own c ch (old c ch hc hM) b hb
      exact ⟨Nat.lt_of_lt_of_le h1 hfr.size, h2⟩
  · intro c c' ch ch' b hc hc' hne hb hb'
    by_cases hM : M c
    · by_cases hM' : M c'
      · exact newD c c' ch ch' b hc hc' hM hM' hne hb hb'
      · rw [hF c' hM'] at hb'
        have ho' := old c' ch' hc' hM'
        rcases (newF c ch hc hM b hb).2 with ⟨c0, ch0, e1, e3, e2⟩ | h2
        · exact h.disj c0 c' ch0 ch' b e1 ho' (fun e => hM' (e ▸ e3)) e2 hb'
        · have := (h.own c' ch' ho' b hb').1; omega
    · rw [hF c hM] at hb
      have ho := old c ch hc hM
      by_cases hM' : M c'
      · rcases (newF c' ch' hc' hM' b hb').2 with ⟨c0, ch0, e1, e3, e2⟩ | h2
        · exact h.disj c0 c ch0 ch b e1 ho (fun e => hM (e ▸ e3)) e2 hb
        · have := (h.own c ch ho b hb).1; omega
      · rw [hF c' hM'] at hb'
        exact h.disj c c' ch ch' b ho (old c' ch' hc' hM') hne hb hb'
  · intro c hc
    rw [hρ c (hids c hc)]
    exact h.keep c hc
  · refine ⟨h.marks.1, h.marks.2.1, fun D hD => ?_⟩
    obtain ⟨g1, g2, g3⟩ := h.marks.2.2 D hD
    refine ⟨Nat.lt_of_lt_of_le g1 hfr.size, (hfr.block D g1 ?_).trans g2, g3⟩
    rintro ⟨c, ch, e1, _, e2⟩
    rcases (h.own c ch e1 D e2).2 with h' | h'
    · have := h.marks.2.1 D (.inr h'); omega
    · exact h'.2 hD
/-- Old blocks stay as they are. -/
theorem Mem.below {ids : List Nat} {C : Ctx} {B : BL} {ρ : Nat → Pl} {F : Nat → Nat → Prop} {w w' : World} (h : Mem ids C B ρ F w) (hb : Below w.heap.size w w') :
    Mem ids C B ρ F w' ∧ Ext (Imm C B F w) w (Imm C B F w') w' :=
  h.step (fun _ => False) (fun _ => False) (Fr.of_below hb) (fun _ _ h _ => h) (fun _ _ => rfl) (fun _ _ => rfl) (fun _ _ h => h) (fun _ h => h) (fun _ _ _ _ _ _ h => h) (fun _ _ _ h => h.elim) (fun _ _ _ h => h.elim) (fun _ _ _ _ _ _ _ h => h.elim)
theorem Slots.mono {K : KL} {ρ ρ' : Nat → Pl} {I I' : Nat → Prop} {a : Act} {w w' : World} (h : Slots K ρ I a w) (he : Ext I w I' w') (hρ : ∀ s c, (look K s).has c = true → ρ' c = ρ c) : Slots K ρ' I' a w' :=
  fun s => DenV.mono he _ _ (hρ s) (h s)
theorem Slots.put {K : KL} {ρ : Nat → Pl} {I : Nat → Prop} {a : Act} {w : World} (h : Slots K ρ I a w) {d : Nat} {v : SV} {x : Value} (hd : d < a.tmps.size) (hv : DenV ρ I w v x) : Slots ((d, v) :: K) ρ I (a.put (some d) x) w := fun s => by
  rw [look_cons]
  by_cases e : d = s
  · subst e
    rw [if_pos rfl, show (a.put (some d) x).tmps.getD d undef = x from at_put_same hd]
    exact hv
  · rw [if_neg e, ← at_put_other e]
    exact h s
def putK (d : Option Nat) (v : SV) (K : KL) : KL := match d with
  | some d => (d, v) :: K
  | none => K
theorem Slots.putO {K : KL} {ρ : Nat → Pl} {I : Nat → Prop} {a : Act} {w : World} (h : Slots K ρ I a w) {d : Option Nat} {v : SV} {x : Value} (hd : ∀ e, d = some e → e < a.tmps.size) (hv : DenV ρ I w v x) : Slots (putK d v K) ρ I (a.put d x) w := by
  cases d with
  | none => exact h
  | some d => exact h.put (hd d rfl) hv

/-! ### what a slot or a constant gives -/
def constS : Value → S1
  | .int k n => .d (.int k n)
  | .bool b => .d (.lit b)
  | .string s => .d (.str s.data.toList)
  | .slice none 0 0 => .nils
  | v => .raw v
theorem constS_den (ρ : Nat → Pl) (I : Nat → Prop) (w : World) (v : Value) : DenS ρ I w (constS v) v := by
  unfold constS
  split <;> simp [DenS, Den]
def constV : Value → SV
  | .agg cs => .c (.agg (cs.toList.map constS))
  | v => .c (.one (constS v))
theorem denL_const (ρ : Nat → Pl) (I : Nat → Prop) (w : World) : ∀ vs : List Value, DenL ρ I w (vs.map constS) vs
  | [] => rfl
  | v :: vs => ⟨v, vs, rfl, constS_den ρ I w v, denL_const ρ I w vs⟩
theorem constV_den (ρ : Nat → Pl) (I : Nat → Prop) (w : World) (v : Value) : DenV ρ I w (constV v) v := by
  unfold constV
  split
  · rename_i cs
    exact ⟨cs.toList, by simp, denL_const ρ I w _⟩
  · exact constS_den ρ I w v
def opv (K : KL) : Operand → SV
  | .tmp t => look K t
  | .const v => constV v
  | .func f => .c (.one (.clo f []))
  | .global g => .c (.one (.raw (.pointer (some ⟨g, 0, none⟩))))
theorem Slots.get {K : KL} {ρ : Nat → Pl} {I : Nat → Prop} {a : Act} {w : World} (h : Slots K ρ I a w) (x : Operand) : DenV ρ I w (opv K x) (a.eval x) := by
  cases x with
  | tmp t => exact h t
  | const v => exact constV_den ρ I w v
  | func f => exact ⟨[], rfl, rfl⟩
  | global g => rfl
end Go.Proofs.YtolaecebfkdbcaaGreat
