/-
Part 7 of the proof that stands in YteoamepgonpdlaaGreatPaRow, with what it needs from the parts ahead; the parts of this text: Rd, Tbl, RowG, RowF, Lays, Gh.
-/
import Derived.Test.YteoamepgonpdlaaGreatRows
import Derived.Test.YteoamepgonpdlaaGreatProg
import Derived.Deep.Slices
import Derived.Deep.Fields
import Derived.OpenShut
import Derived.WalkKit
import Derived.ProofKit
import Derived.JoinedCond
import Derived.Below
import Derived.Carry
import Derived.ChangeSame
import Derived.Shelf.SlIter.Nil
import Derived.Shelf.SlIterI.Nil
import Derived.Shelf.SortM.Plain
import Derived.Shelf.SortM.SortNone
import Derived.Shelf.SlMaps.Clone
import Derived.Ground.GgzProg
import Derived.Ground.SlgmProg
import Derived.Ground.SlmcProg
import Derived.Test.YteoamepgonpdlaaGreatPa6
/-!
  What the arguments' reading gives: values of the universe, no greater than the reading; for any type that is of the universe.
-/
namespace Go.Proofs.YteoamepgonpdlaaGreat
set_option linter.unusedVariables false
set_option linter.unusedSimpArgs false
open Go.RowKit Go.ChangeShapes Go.WideShapes Go.Deep
/-- How much a value has. -/
noncomputable def bulkU : (u : U) → El u → Nat
 | .int _, _ => 1
 | .u8, _ => 1
 | .bool, _ => 1
 | .str, s => 1 + List.length s
 | .adr, _ => 1
 | .hdl, _ => 1
 | .fn, _ => 1
 | .sl u, xs => 1 + (List.map (bulkU u) xs).sum
 | .pr u v, p => bulkU u p.1 + bulkU v p.2
 | .arr _ u, xs => (List.map (bulkU u) xs).sum
/-- All its numbers fit. -/
def RngU : (u : U) → El u → Prop
 | .int k, n => (Lit.int k n).wf = true
 | .sl u, xs => ∀ x, lmem (α := El u) x xs → RngU u x
 | .pr u v, p => RngU u p.1 ∧ RngU v p.2
 | .arr _ u, xs => ∀ x, lmem (α := El u) x xs → RngU u x
 | _, _ => True
/-- Is the type t of u? -/
def tyFs (P : Program) (ty : U → TypeId → Bool) : U → List Field → Nat → Bool
 | _, [], _ => false
 | u, [f], off => Nat.beq f.offset off && ty u f.type && Nat.beq (P.cellsOf f.type) (sz u)
 | .pr u v, f :: g :: fs, off => Nat.beq f.offset off && ty u f.type && Nat.beq (P.cellsOf f.type) (sz u) && tyFs P ty v (g :: fs) (off + sz u)
 | _, _ :: _ :: _, _ => false
def tyU (P : Program) : Nat → U → TypeId → Bool
 | 0, _, _ => false
 | n + 1, u, t => match P.underlying t, u with
   | some (.int k), .int k' => eqK k k'
   | some (.int k), .u8 => eqK k .u8
   | some .bool, .bool => true
   | some .string, .str => true
   | some (.slice e), .sl v => tyU P n v e && Nat.beq (P.cellsOf e) (sz v) && Nat.blt 0 (sz v)
   | some (.array m e), .arr m' v => Nat.beq m m' && tyU P n v e && Nat.beq (P.cellsOf e) (sz v)
   | some (.struct fs), u => tyFs P (tyU P n) u fs.toList 0
   | _, _ => false
section
variable {H : Type} {enc : TypeId × Value → H} {w : World} {base : Nat} {spare : Nat → Bool} {held : Bool} {P : Program}
theorem bulk_pos (d : DataW H) : 1 ≤ Rows.uptoBulk d := by
 unfold Rows.uptoBulk
 split <;> omega
theorem bulkAll_append (l r : List (DataW H)) : Rows.uptoBulkAll (l ++ r) = Rows.uptoBulkAll l + Rows.uptoBulkAll r := by
 induction l with
 | nil => simp [Rows.uptoBulkAll]
 | cons x l ih => simp only [List.cons_append, Rows.uptoBulkAll, ih]; omega
/-- Cells that read as a value of u. -/
def RdU (w : World) (u : U) (cs : List Value) (b : Nat) : Prop := ∃ a : El u, DenU (fun b => b < w.heap.size) w u a (fun j => cs[j]?) ∧ bulkU u a ≤ b ∧ RngU u a
theorem denU_cells {I : Nat → Prop} {u : U} {a : El u} {c c' : Nat → Option Value} (h : DenU I w u a c) (hc : ∀ j v, c j = some v → c' j = some v) : DenU I w u a c' := DenU.mono (Ext.refl I w) u a c c' hc h
theorem take_drop_get {cs : List Value} {o k j : Nat} {v : Value} (h : ((cs.drop o).take k)[j]? = some v) : cs[o + j]? = some v := by
 rw [List.getElem?_take] at h
 split at h
 · rwa [List.getElem?_drop] at h
 · cases h
theorem rdFs {ty : U → TypeId → Bool} {n : Nat} (ih : ∀ u t, ty u t = true → ∀ cs x, DataW.trod enc P w base spare held n t cs = some x → RdU w u cs (Rows.uptoBulk x.1)) :
   ∀ (fs : List Field) (u : U) (off : Nat) (xs : List (DataW H × List MemPlace)) (cs : List Value), tyFs P ty u fs off = true → xs.length = fs.length →
     (∀ (i : Nat) (f : Field), fs[i]? = some f → DataW.trod enc P w base spare held n f.type ((cs.drop f.offset).take (P.cellsOf f.type)) = xs[i]?) →
     ∃ a : El u, DenU (fun b => b < w.heap.size) w u a (fun j => cs[off + j]?) ∧ bulkU u a ≤ Rows.uptoBulkAll (xs.map (·.1)) ∧ RngU u a
 | [], u, off, xs, cs, h, _, _ => by simp [tyFs] at h
 | [f], u, off, xs, cs, h, hl, hf => by
   simp only [tyFs, Bool.and_eq_true, Nat.beq_eq] at h
   obtain ⟨⟨h1, h2⟩, h3⟩ := h
   match xs, hl with
   | [x], _ =>
     obtain ⟨a, q1, q2, q3⟩ := ih _ _ h2 _ _ (hf 0 f rfl)
     subst h1
     exact ⟨a, denU_cells q1 fun j v hv => take_drop_get hv, by simpa [Rows.uptoBulkAll] using q2, q3⟩
 | f :: g :: fs, .pr u v, off, xs, cs, h, hl, hf => by
   simp only [tyFs, Bool.and_eq_true, Nat.beq_eq] at h
   obtain ⟨⟨⟨h1, h2⟩, h3⟩, h4⟩ := h
   match xs, hl with
   | x :: xs, hl =>
     obtain ⟨a, q1, q2, q3⟩ := ih _ _ h2 _ _ (hf 0 f rfl)
     obtain ⟨b, r1, r2, r3⟩ := rdFs ih (g :: fs) v (off + sz u) xs cs h4 (by simpa using hl) (fun i f hi => hf (i + 1) f hi)
     subst h1
     refine ⟨(a, b), ⟨denU_cells q1 fun j v hv => take_drop_get hv, denU_cells r1 fun j v hv => by simpa only [Nat.add_assoc] using hv⟩, ?_, q3, r3⟩
     simp only [bulkU, List.map_cons, Rows.uptoBulkAll]
     omega
 | _ :: _ :: _, .int _, _, _, _, h, _, _ => by simp [tyFs] at h
 | _ :: _ :: _, .u8, _, _, _, h, _, _ => by simp [tyFs] at h
 | _ :: _ :: _, .bool, _, _, _, h, _, _ => by simp [tyFs] at h
 | _ :: _ :: _, .str, _, _, _, h, _, _ => by simp [tyFs] at h
 | _ :: _ :: _, .adr, _, _, _, h, _, _ => by simp [tyFs] at h
 | _ :: _ :: _, .sl _, _, _, _, h, _, _ => by simp [tyFs] at h
 | _ :: _ :: _, .arr _ _, _, _, _, h, _, _ => by simp [tyFs] at h
theorem lget_snoc {α : Type} {l : List α} {y x : α} {i : Nat} (h : lget (l ++ [y]) i = some x) : (i < l.length ∧ lget l i = some x) ∨ (i = l.length ∧ x = y) := by
 unfold lget at *
 rcases Nat.lt_trichotomy i l.length with h1 | h1 | h1
 · rw [List.getElem?_append_left h1] at h; exact .inl ⟨h1, h⟩
 · subst h1
   simp only [List.getElem?_concat_length, Option.some.injEq] at h
   exact .inr ⟨rfl, h.symm⟩
 · rw [List.getElem?_eq_none (by simp; omega)] at h
   cases h
theorem rdU : ∀ (n : Nat) (u : U) (t : TypeId), tyU P n u t = true → ∀ (m : Nat) (cs : List Value) (x : DataW H × List MemPlace), DataW.trod enc P w base spare held m t cs = some x → RdU w u cs (Rows.uptoBulk x.1)
 | 0, u, t, h, _, _, _, _ => by simp [tyU] at h
 | n + 1, u, t, h, m, cs, x, hx => by
   unfold tyU at h
   split at h
   case h_1 k k' hu =>
     obtain rfl := eqK_eq h
     obtain ⟨i, rfl, rfl, hw⟩ := DataW.trod_int hu hx
     exact ⟨i, rfl, bulk_pos _, hw⟩
   case h_2 k hu =>
     obtain rfl := eqK_eq h
     obtain ⟨i, rfl, rfl, hw⟩ := DataW.trod_int hu hx
     have hk : 0 ≤ i ∧ i < 256 := by
       simp [Lit.wf, IntKind.min, IntKind.max, IntKind.bits, IntKind.signed] at hw
       omega
     refine ⟨(UInt8.ofNat i.toNat : UInt8), ?_, bulk_pos _, trivial⟩
     show some (Value.int .u8 i) = some (Value.int .u8 _)
     congr 2
     rw [UInt8.toNat_ofNat']
     omega
   case h_3 hu =>
     obtain ⟨b, rfl, rfl⟩ := DataW.trod_bool hu hx
     exact ⟨b, rfl, bulk_pos _, trivial⟩
   case h_4 hu =>
     obtain ⟨s, rfl, rfl, hs⟩ := DataW.trod_string hu hx
     refine ⟨(s.data.toList : List UInt8), rfl, ?_, trivial⟩
     simp only [bulkU, Rows.uptoBulk]
     omega
   case h_5 e v hu =>
     simp only [Bool.and_eq_true, Nat.beq_eq] at h
     obtain ⟨⟨h1, h2⟩, h3⟩ := h
     have h3 : 0 < sz v := by simpa [Nat.blt_eq] using h3
     rcases open_slice hu hx with ⟨rfl, rfl⟩ | ⟨a, len, cap, m', n', D, Pl, rfl, hbl, hl, hm, hmm, rfl, hel⟩
     · refine ⟨([] : List (El v)), ⟨none, 0, rfl, Nat.le_refl _, Nat.zero_le _, fun h => absurd h (Nat.lt_irrefl 0)⟩, by simp [bulkU, Rows.uptoBulk], fun x hx => by cases hx⟩
     · rw [h2] at hel
       have hlm : len ≤ m' := by rw [hmm]; split <;> omega
       have key : ∀ k, k ≤ len → ∃ l : List (El v), l.length = k ∧ (l.map (bulkU v)).sum ≤ Rows.uptoBulkAll ((List.range k).map D) ∧ (∀ x, x ∈ l → RngU v x) ∧
           (∀ i x, lget l i = some x → DenU (fun b => b < w.heap.size) w v x (fun j => if j < sz v then w.cell? ((a.add (i * sz v)).add j) else none)) := by
         intro k
         induction k with
         | zero => exact fun _ => ⟨[], rfl, by simp, (fun x h => by cases h), fun i x h => by simp [lget] at h⟩
         | succ k ihk =>
           intro hk
           obtain ⟨l, l1, l2, l3, l4⟩ := ihk (by omega)
           obtain ⟨cs', hc, ht'⟩ := hel k (by omega)
           obtain ⟨y, y1, y2, y3⟩ := rdU n v e h1 _ _ _ ht'
           obtain ⟨-, hcl, hcc⟩ := World.cells?_some hc
           refine ⟨l ++ [y], by simp [l1], ?_, ?_, ?_⟩
           · rw [List.range_succ, List.map_append, List.map_append, List.sum_append, bulkAll_append]
             have y2 : bulkU v y ≤ Rows.uptoBulk (D k) := y2
             simp only [Rows.uptoBulkAll, List.map_cons, List.map_nil, List.sum_cons, List.sum_nil]
             omega
           · intro x hx
             rcases List.mem_append.1 hx with hx | hx
             · exact l3 x hx
             · simp at hx; subst hx; exact y3
           · intro i x hi
             rcases lget_snoc hi with ⟨_, hi⟩ | ⟨rfl, rfl⟩
             · exact l4 i x hi
             · rw [l1]
               refine denU_cells y1 fun j v' hv => ?_
               have hj := (List.getElem?_eq_some_iff.1 hv).1
               rw [if_pos (by omega), hcc j (by omega)]
               exact hv
       obtain ⟨l, l1, l2, l3, l4⟩ := key len (Nat.le_refl _)
       refine ⟨l, ⟨some a, cap, by rw [show List.length (α := El v) l = len from l1]; rfl, by rw [show List.length (α := El v) l = len from l1]; exact hl, hm, fun h0 => ?_⟩, ?_, l3⟩
       · have h0 : 0 < len := by rw [← l1]; exact h0
         obtain ⟨cs', hc, _⟩ := hel 0 (by omega)
         obtain ⟨-, hcl, hcc⟩ := World.cells?_some hc
         have hc0 := hcc 0 (by omega)
         rw [List.getElem?_eq_getElem (by omega)] at hc0
         obtain ⟨b, o, spot⟩ := a
         have hspot : spot = none := by simpa [Addr.add] using World.cell?_spot hc0
         subst hspot
         have hbl := World.block_lt_of_cell? w _ hc0
         refine ⟨b, o, rfl, by simpa [Addr.add] using hbl, fun i x hi => denU_cells (l4 i x hi) fun j v' hv => ?_⟩
         split at hv
         · rwa [add_plain, add_plain, Nat.add_assoc] at hv
         · cases hv
       · simp only [bulkU, Rows.uptoBulk]
         exact (show 1 + (l.map (bulkU v)).sum ≤ _ by omega)
   case h_6 k e k' v hu =>
     simp only [Bool.and_eq_true, Nat.beq_eq] at h
     obtain ⟨⟨h0, h1⟩, h2⟩ := h
     subst h0
     obtain ⟨xs, m', rfl, rfl, hl, hxl, hf⟩ := DataW.trod_array hu hx
     rw [h2] at hf
     have key : ∀ q, q ≤ k → ∃ l : List (El v), l.length = q ∧ (l.map (bulkU v)).sum ≤ Rows.uptoBulkAll ((xs.take q).map (·.1)) ∧ (∀ x, x ∈ l → RngU v x) ∧
         (∀ i x, lget l i = some x → DenU (fun b => b < w.heap.size) w v x (fun j => cs[i * sz v + j]?)) := by
       intro q
       induction q with
       | zero => exact fun _ => ⟨[], rfl, by simp, (fun x h => by cases h), fun i x h => by simp [lget] at h⟩
       | succ q ihq =>
         intro hq
         obtain ⟨l, l1, l2, l3, l4⟩ := ihq (by omega)
         have hfq := hf q (by omega)
         rw [List.getElem?_eq_getElem (by omega)] at hfq
         obtain ⟨y, y1, y2, y3⟩ := rdU n v e h1 _ _ _ hfq
         refine ⟨l ++ [y], by simp [l1], ?_, ?_, ?_⟩
         · rw [List.take_add_one, List.getElem?_eq_getElem (by omega), List.map_append, List.map_append, List.sum_append, bulkAll_append]
           simp only [Rows.uptoBulkAll, List.map_cons, List.map_nil, List.sum_cons, List.sum_nil, Option.toList_some]
           omega
         · intro x hx
           rcases List.mem_append.1 hx with hx | hx
           · exact l3 x hx
           · simp at hx; subst hx; exact y3
         · intro i x hi
           rcases lget_snoc hi with ⟨_, hi⟩ | ⟨rfl, rfl⟩
           · exact l4 i x hi
           · rw [l1]
             exact denU_cells y1 fun j v' hv => take_drop_get hv
     obtain ⟨l, l1, l2, l3, l4⟩ := key k (Nat.le_refl _)
     refine ⟨l, ⟨l1, l4⟩, ?_, l3⟩
     rw [List.take_of_length_le (by omega)] at l2
     simp only [bulkU, Rows.uptoBulk]
     exact (show (l.map (bulkU v)).sum ≤ _ by omega)
   case h_7 u' fs hu =>
     obtain ⟨xs, m', rfl, rfl, hl, hxl, hf⟩ := DataW.trod_struct hu hx
     obtain ⟨a, q1, q2, q3⟩ := rdFs (fun u t ht cs x h => rdU n u t ht _ cs x h) fs.toList _ 0 xs cs h (by simpa using hxl) (fun i f hi => hf i f (by simpa using hi))
     refine ⟨a, denU_cells q1 fun j v hv => by rw [Nat.zero_add] at hv; exact hv, ?_, q3⟩
     simp only [Rows.uptoBulk]
     omega
   case h_8 => cases h
end
end Go.Proofs.YteoamepgonpdlaaGreat
/-!
  The types of this seat, as the generator of conditions wants them.
-/
namespace Go.Proofs.YteoamepgonpdlaaGreat
open Go.RowKit
namespace tbl
/-- int -/
def t3 : TI := ⟨.int .i64, 1, false, [.d (.int .i64 0)], [], some (.int .i64), 8⟩
/-- bool -/
def t4 : TI := ⟨.bool, 1, false, [.d (.lit false)], [], some .bool, 1⟩
/-- uint8 -/
def t5 : TI := ⟨.int .u8, 1, false, [.d (.int .u8 0)], [], some .u8, 1⟩
/-- string -/
def t9 : TI := ⟨.str, 1, false, [.d (.str [])], [], some .str, 16⟩
/-- int32 -/
def t21 : TI := ⟨.int .i32, 1, false, [.d (.int .i32 0)], [], some (.int .i32), 4⟩
/-- []pentimentoref14.Op -/
def t22 : TI := ⟨.sl 38, 1, false, [.nils], [], some (.sl (.pr (.int .i64) (.pr (.int .i64) (.pr .str (.pr .str (.pr (.int .i64) (.pr (.int .i64) (.pr (.int .i64) (.pr (.sl .u8) .str))))))))), 24⟩
/-- *chain.Chain -/
def t23 : TI := ⟨.ptr 99, 1, false, [.raw (.pointer none)], [], some .adr, 8⟩
/-- api.Errno -/
def t24 : TI := ⟨.int .i64, 1, false, [.d (.int .i64 0)], [], some (.int .i64), 8⟩
/-- []pentimentoref14.Disk -/
def t27 : TI := ⟨.sl 124, 1, false, [.nils], [], some (.sl (.pr .str (.pr .str (.pr (.int .i64) (.pr (.int .i64) (.pr (.sl (.pr (.int .i64) (.int .i64))) (.pr (.sl (.pr .str (.sl (.pr (.int .i64) (.int .i64))))) (.sl .str)))))))), 24⟩
/-- pentimentoref14.Chain -/
def t29 : TI := ⟨.st, 3, true, [.d (.int .i64 0), .d (.int .i64 0), .nils], [(0, 1), (1, 1), (2, 1)], some (.pr (.int .i64) (.pr (.int .i64) (.sl (.pr .str (.pr .str (.pr (.int .i64) (.pr (.int .i64) (.pr (.sl (.pr (.int .i64) (.int .i64))) (.pr (.sl (.pr .str (.sl (.pr (.int .i64) (.int .i64))))) (.sl .str)))))))))), 40⟩
/-- []uint8 -/
def t34 : TI := ⟨.sl 5, 1, false, [.nils], [], some (.sl .u8), 24⟩
/-- pentimentoref12.Op -/
def t36 : TI := ⟨.st, 5, true, [.d (.int .i64 0), .d (.int .i64 0), .d (.int .i64 0), .nils, .d (.str [])], [(0, 1), (1, 1), (2, 1), (3, 1), (4, 1)], some (.pr (.int .i64) (.pr (.int .i64) (.pr (.int .i64) (.pr (.sl .u8) .str)))), 64⟩
/-- pentimentoref14.Op -/
def t38 : TI := ⟨.st, 9, true, [.d (.int .i64 0), .d (.int .i64 0), .d (.str []), .d (.str []), .d (.int .i64 0), .d (.int .i64 0), .d (.int .i64 0), .nils, .d (.str [])], [(0, 1), (1, 1), (2, 1), (3, 1), (4, 5)], some (.pr (.int .i64) (.pr (.int .i64) (.pr .str (.pr .str (.pr (.int .i64) (.pr (.int .i64) (.pr (.int .i64) (.pr (.sl .u8) .str)))))))), 112⟩
/-- []api.Extent -/
def t46 : TI := ⟨.sl 114, 1, false, [.nils], [], some (.sl (.pr (.int .i64) (.pr (.int .i64) (.int .i64)))), 24⟩
/-- *image.Image -/
def t49 : TI := ⟨.ptr 165, 1, false, [.raw (.pointer none)], [], some .adr, 8⟩
/-- pentimentolaw16.Seat -/
def t54 : TI := ⟨.st, 2, true, [.d (.str []), .d (.str [])], [(0, 1), (1, 1)], some (.pr .str .str), 32⟩
/-- []pentimentoref15.Op -/
def t55 : TI := ⟨.sl 66, 1, false, [.nils], [], some (.sl (.pr (.int .i64) (.pr (.int .i64) (.pr (.int .i64) (.pr (.int .i64) (.pr (.sl .u8) .str)))))), 24⟩
/-- *pull.Job -/
def t58 : TI := ⟨.ptr 137, 1, false, [.raw (.pointer none)], [], some .adr, 8⟩
/-- pentimentoref16.Job -/
def t62 : TI := ⟨.st, 3, true, [.d (.str []), .d (.str []), .d (.lit false)], [(0, 1), (1, 1), (2, 1)], some (.pr .str (.pr .str .bool)), 40⟩
/-- pentimentoref15.Op -/
def t66 : TI := ⟨.st, 6, true, [.d (.int .i64 0), .d (.int .i64 0), .d (.int .i64 0), .d (.int .i64 0), .nils, .d (.str [])], [(0, 1), (1, 5)], some (.pr (.int .i64) (.pr (.int .i64) (.pr (.int .i64) (.pr (.int .i64) (.pr (.sl .u8) .str))))), 72⟩
/-- *merge.Job -/
def t79 : TI := ⟨.ptr 146, 1, false, [.raw (.pointer none)], [], some .adr, 8⟩
/-- []bool -/
def t82 : TI := ⟨.sl 4, 1, false, [.nils], [], some (.sl .bool), 24⟩
/-- pentimentoref15.Job -/
def t84 : TI := ⟨.st, 4, true, [.d (.str []), .d (.str []), .nils, .d (.lit false)], [(0, 1), (1, 1), (2, 1), (3, 1)], some (.pr .str (.pr .str (.pr (.sl .bool) .bool))), 64⟩
/-- map[string]*chain.disk -/
def t97 : TI := ⟨.mp 9 127, 1, false, [.raw (.map none)], [], none, 8⟩
/-- chain.Chain -/
def t99 : TI := ⟨.st, 3, true, [.d (.int .i64 0), .d (.int .i64 0), .raw (.map none)], [(0, 1), (1, 1), (2, 1)], none, 24⟩
/-- []pentimentoref12.Cell -/
def t100 : TI := ⟨.sl 148, 1, false, [.nils], [], some (.sl (.pr (.int .i64) (.int .i64))), 24⟩
/-- []pentimentoref12.Snap -/
def t101 : TI := ⟨.sl 229, 1, false, [.nils], [], some (.sl (.pr .str (.sl (.pr (.int .i64) (.int .i64))))), 24⟩
/-- []string -/
def t102 : TI := ⟨.sl 9, 1, false, [.nils], [], some (.sl .str), 24⟩
/-- pentimentoref12.Image -/
def t104 : TI := ⟨.st, 5, true, [.d (.int .i64 0), .d (.int .i64 0), .nils, .nils, .nils], [(0, 1), (1, 1), (2, 1), (3, 1), (4, 1)], some (.pr (.int .i64) (.pr (.int .i64) (.pr (.sl (.pr (.int .i64) (.int .i64))) (.pr (.sl (.pr .str (.sl (.pr (.int .i64) (.int .i64))))) (.sl .str))))), 88⟩
/-- api.Extent -/
def t114 : TI := ⟨.st, 3, true, [.d (.int .i64 0), .d (.int .i64 0), .d (.int .i64 0)], [(0, 1), (1, 1), (2, 1)], some (.pr (.int .i64) (.pr (.int .i64) (.int .i64))), 24⟩
/-- pentimentoref14.Disk -/
def t124 : TI := ⟨.st, 7, true, [.d (.str []), .d (.str []), .d (.int .i64 0), .d (.int .i64 0), .nils, .nils, .nils], [(0, 1), (1, 1), (2, 5)], some (.pr .str (.pr .str (.pr (.int .i64) (.pr (.int .i64) (.pr (.sl (.pr (.int .i64) (.int .i64))) (.pr (.sl (.pr .str (.sl (.pr (.int .i64) (.int .i64))))) (.sl .str))))))), 120⟩
/-- *chain.disk -/
def t127 : TI := ⟨.ptr 130, 1, false, [.raw (.pointer none)], [], some .adr, 8⟩
/-- []int -/
def t128 : TI := ⟨.sl 3, 1, false, [.nils], [], some (.sl (.int .i64)), 24⟩
/-- chain.disk -/
def t130 : TI := ⟨.st, 2, true, [.raw (.pointer none), .d (.str [])], [(0, 1), (1, 1)], some (.pr .adr .str), 24⟩
/-- pull.Job -/
def t137 : TI := ⟨.st, 4, true, [.raw (.pointer none), .d (.str []), .d (.str []), .d (.lit false)], [(0, 1), (1, 1), (2, 1), (3, 1)], some (.pr .adr (.pr .str (.pr .str .bool))), 48⟩
/-- func string  int  bool -/
def t141 : TI := ⟨.other, 1, false, [.raw .nilFunc], [], some .fn, 8⟩
/-- map[int]int -/
def t144 : TI := ⟨.mp 3 3, 1, false, [.raw (.map none)], [], none, 8⟩
/-- merge.Job -/
def t146 : TI := ⟨.st, 5, true, [.raw (.pointer none), .d (.str []), .d (.str []), .raw (.map none), .d (.lit false)], [(0, 1), (1, 1), (2, 1), (3, 1), (4, 1)], none, 56⟩
/-- pentimentoref12.Cell -/
def t148 : TI := ⟨.st, 2, true, [.d (.int .i64 0), .d (.int .i64 0)], [(0, 1), (1, 1)], some (.pr (.int .i64) (.int .i64)), 16⟩
/-- func func int  bool  -/
def t151 : TI := ⟨.other, 1, false, [.raw .nilFunc], [], some .fn, 8⟩
/-- iter.Seq[int] -/
def t152 : TI := ⟨.other, 1, false, [.raw .nilFunc], [], some .fn, 8⟩
/-- *table.Table -/
def t156 : TI := ⟨.ptr 197, 1, false, [.raw (.pointer none)], [], some .adr, 8⟩
/-- *counts.Counts -/
def t159 : TI := ⟨.ptr 199, 1, false, [.raw (.pointer none)], [], some .adr, 8⟩
/-- map[int][]uint8 -/
def t162 : TI := ⟨.mp 3 34, 1, false, [.raw (.map none)], [], none, 8⟩
/-- []image.snap -/
def t163 : TI := ⟨.sl 276, 1, false, [.nils], [], some (.sl (.pr .str .adr)), 24⟩
/-- image.Image -/
def t165 : TI := ⟨.st, 5, true, [.d (.int .i64 0), .raw (.pointer none), .raw (.pointer none), .raw (.map none), .nils], [(0, 1), (1, 1), (2, 1), (3, 1), (4, 1)], none, 56⟩
/-- func string  bool -/
def t166 : TI := ⟨.other, 1, false, [.raw .nilFunc], [], some .fn, 8⟩
/-- func int  []uint8 -/
def t168 : TI := ⟨.other, 1, false, [.raw .nilFunc], [], some .fn, 8⟩
/-- func *image.Image  func int  []uint8  api.Errno -/
def t170 : TI := ⟨.other, 1, false, [.raw .nilFunc], [], some .fn, 8⟩
/-- pentimentoref12.Below -/
def t176 : TI := ⟨.sl 9, 1, false, [.nils], [], some (.sl .str), 24⟩
/-- func func string  bool  -/
def t182 : TI := ⟨.other, 1, false, [.raw .nilFunc], [], some .fn, 8⟩
/-- iter.Seq[string] -/
def t183 : TI := ⟨.other, 1, false, [.raw .nilFunc], [], some .fn, 8⟩
/-- slot.Slot -/
def t188 : TI := ⟨.st, 3, true, [.d (.int .i64 0), .d (.int .i64 0), .d (.lit false)], [(0, 1), (1, 1), (2, 1)], some (.pr (.int .i64) (.pr (.int .i64) .bool)), 24⟩
/-- func int  bool -/
def t191 : TI := ⟨.other, 1, false, [.raw .nilFunc], [], some .fn, 8⟩
/-- func   api.Errno -/
def t192 : TI := ⟨.other, 1, false, [.raw .nilFunc], [], some .fn, 8⟩
/-- map[int]func   api.Errno -/
def t193 : TI := ⟨.mp 3 192, 1, false, [.raw (.map none)], [], none, 8⟩
/-- map[int]table.group -/
def t195 : TI := ⟨.mp 3 217, 1, false, [.raw (.map none)], [], none, 8⟩
/-- table.Table -/
def t197 : TI := ⟨.st, 2, true, [.d (.int .i64 0), .raw (.map none)], [(0, 1), (1, 1)], none, 16⟩
/-- counts.Counts -/
def t199 : TI := ⟨.st, 1, true, [.nils], [(0, 1)], some (.sl (.int .i64)), 24⟩
/-- func func image.piece  bool  -/
def t200 : TI := ⟨.other, 1, false, [.raw .nilFunc], [], some .fn, 8⟩
/-- image.piece -/
def t203 : TI := ⟨.st, 4, true, [.d (.int .i64 0), .d (.int .i64 0), .d (.int .i64 0), .d (.int .i64 0)], [(0, 1), (1, 1), (2, 1), (3, 1)], some (.pr (.int .i64) (.pr (.int .i64) (.pr (.int .i64) (.int .i64)))), 32⟩
/-- func image.piece  bool -/
def t204 : TI := ⟨.other, 1, false, [.raw .nilFunc], [], some .fn, 8⟩
/-- table.group -/
def t217 : TI := ⟨.arr 16 188, 48, true, [.d (.int .i64 0), .d (.int .i64 0), .d (.lit false), .d (.int .i64 0), .d (.int .i64 0), .d (.lit false), .d (.int .i64 0), .d (.int .i64 0), .d (.lit false), .d (.int .i64 0), .d (.int .i64 0), .d (.lit false), .d (.int .i64 0), .d (.int .i64 0), .d (.lit false), .d (.int .i64 0), .d (.int .i64 0), .d (.lit false), .d (.int .i64 0), .d (.int .i64 0), .d (.lit false), .d (.int .i64 0), .d (.int .i64 0), .d (.lit false), .d (.int .i64 0), .d (.int .i64 0), .d (.lit false), .d (.int .i64 0), .d (.int .i64 0), .d (.lit false), .d (.int .i64 0), .d (.int .i64 0), .d (.lit false), .d (.int .i64 0), .d (.int .i64 0), .d (.lit false), .d (.int .i64 0), .d (.int .i64 0), .d (.lit false), .d (.int .i64 0), .d (.int .i64 0), .d (.lit false), .d (.int .i64 0), .d (.int .i64 0), .d (.lit false), .d (.int .i64 0), .d (.int .i64 0), .d (.lit false)], [], some (.arr 16 (.pr (.int .i64) (.pr (.int .i64) .bool))), 384⟩
/-- pentimentoref12.Snap -/
def t229 : TI := ⟨.st, 2, true, [.d (.str []), .nils], [(0, 1), (1, 1)], some (.pr .str (.sl (.pr (.int .i64) (.int .i64)))), 40⟩
/-- uint -/
def t236 : TI := ⟨.int .u64, 1, false, [.d (.int .u64 0)], [], some (.int .u64), 8⟩
/-- slices.sortedHint -/
def t240 : TI := ⟨.int .i64, 1, false, [.d (.int .i64 0)], [], some (.int .i64), 8⟩
/-- uint32 -/
def t248 : TI := ⟨.int .u32, 1, false, [.d (.int .u32 0)], [], some (.int .u32), 4⟩
/-- uint64 -/
def t250 : TI := ⟨.int .u64, 1, false, [.d (.int .u64 0)], [], some (.int .u64), 8⟩
/-- func int  api.Errno -/
def t252 : TI := ⟨.other, 1, false, [.raw .nilFunc], [], some .fn, 8⟩
/-- slices.xorshift -/
def t253 : TI := ⟨.int .u64, 1, false, [.d (.int .u64 0)], [], some (.int .u64), 8⟩
/-- *int -/
def t257 : TI := ⟨.ptr 3, 1, false, [.raw (.pointer none)], [], some .adr, 8⟩
/-- *slices.xorshift -/
def t259 : TI := ⟨.ptr 253, 1, false, [.raw (.pointer none)], [], some .adr, 8⟩
/-- image.snap -/
def t276 : TI := ⟨.st, 2, true, [.d (.str []), .raw (.pointer none)], [(0, 1), (1, 1)], some (.pr .str .adr), 24⟩
def types : Tr := (.node (.node (.node (.node (.node (.node (.node .leaf 3 t3 .leaf) 4 t4 .leaf) 5 t5 (.node .leaf 9 t9 .leaf)) 21 t21 (.node (.node (.node .leaf 22 t22 .leaf) 23 t23 .leaf) 24 t24 (.node .leaf 27 t27 .leaf))) 29 t29 (.node (.node (.node (.node .leaf 34 t34 .leaf) 36 t36 .leaf) 38 t38 (.node .leaf 46 t46 .leaf)) 49 t49 (.node (.node .leaf 54 t54 .leaf) 55 t55 (.node .leaf 58 t58 .leaf)))) 62 t62 (.node (.node (.node (.node (.node .leaf 66 t66 .leaf) 79 t79 .leaf) 82 t82 (.node .leaf 84 t84 .leaf)) 97 t97 (.node (.node .leaf 99 t99 .leaf) 100 t100 (.node .leaf 101 t101 .leaf))) 102 t102 (.node (.node (.node (.node .leaf 104 t104 .leaf) 114 t114 .leaf) 124 t124 (.node .leaf 127 t127 .leaf)) 128 t128 (.node (.node .leaf 130 t130 .leaf) 137 t137 (.node .leaf 141 t141 .leaf))))) 144 t144 (.node (.node (.node (.node (.node (.node .leaf 146 t146 .leaf) 148 t148 .leaf) 151 t151 (.node .leaf 152 t152 .leaf)) 156 t156 (.node (.node (.node .leaf 159 t159 .leaf) 162 t162 .leaf) 163 t163 (.node .leaf 165 t165 .leaf))) 166 t166 (.node (.node (.node (.node .leaf 168 t168 .leaf) 170 t170 .leaf) 176 t176 (.node .leaf 182 t182 .leaf)) 183 t183 (.node (.node .leaf 188 t188 .leaf) 191 t191 (.node .leaf 192 t192 .leaf)))) 193 t193 (.node (.node (.node (.node (.node .leaf 195 t195 .leaf) 197 t197 .leaf) 199 t199 (.node .leaf 200 t200 .leaf)) 203 t203 (.node (.node .leaf 204 t204 .leaf) 217 t217 (.node .leaf 229 t229 .leaf))) 236 t236 (.node (.node (.node (.node .leaf 240 t240 .leaf) 248 t248 .leaf) 250 t250 (.node .leaf 252 t252 .leaf)) 253 t253 (.node (.node .leaf 257 t257 .leaf) 259 t259 (.node .leaf 276 t276 .leaf))))))
end tbl
set_option maxRecDepth 100000 in
theorem tblOK : TblOK Tryz.prog tbl.types := TblOK.of (by kernel_rfl)
theorem mixed : Tryz.prog.follows .mixedOrders = true := by kernel_rfl
end Go.Proofs.YteoamepgonpdlaaGreat
/-!
  From a contract of a law's function to its row: for laws whose arguments are of the universe and which return true.
-/
namespace Go.Proofs.YteoamepgonpdlaaGreat
set_option linter.unusedVariables false
set_option linter.unusedSimpArgs false
open Go.ChangeShapes Go.WideShapes Go.ChangeAt Go.RowKit
section
variable {H : Type} {enc : TypeId × Value → H} {P : Program}
theorem post_of_below {f : Func} {s : ChangeSpec} {apart fresh handsOn again : Bool} {W W' : World} {args : Array Value} {v : Value} {ds gs : List (DataW H)} {before pa pv : List MemPlace}
   (hW : DataW.Whole enc P f.params.toList s.vars apart W args.toList ds gs before)
   (hres : ∀ (b : Nat) (sp : Nat → Bool) (hd : Bool), DataW.TrodAll enc P W' b sp hd f.resultTypes.toList (v.resultList f.resultTypes.size) (s.fn H (ds ++ gs)).results [])
   (hargs : ∀ sp : Nat → Bool, (∀ p ∈ before, sp p.block = true) → DataW.TrodAll enc P W' 0 sp true f.params.toList args.toList (s.fn H (ds ++ gs)).args pa)
   (hvars : ∀ sp : Nat → Bool, (∀ p ∈ before, sp p.block = true) → DataW.TrodVars enc P W' sp s.vars (s.fn H (ds ++ gs)).vars pv)
   (hps : before = pa ++ pv) (hb : Below W.heap.size W W')
   (hok : ∀ (j : Nat) (t : TypeId) (r : Value), f.resultTypes[j]? = some t → (v.resultList f.resultTypes.size)[j]? = some r → Value.okWide P W' .any 0 t r) :
   s.post enc P f apart fresh handsOn again W args v W' := by
 have hlt : ∀ p ∈ before, p.block < W.heap.size := fun p hp => hW.lt p hp
 have hold : ∀ p ∈ before, (fun b => decide (b < W.heap.size)) p.block = true := fun p hp => by simpa using hlt p hp
 refine ⟨ds, gs, before, [], pa, pv, hW, hres _ _ _, hargs _ hold, hvars _ hold, World.keptBut_mono (fun p hp => ⟨hp, ?_⟩) (hb.frame (· ∈ before)), fun _ => ?_⟩
 · rw [hps, List.mem_append] at hp
   exact Or.inr hp
 · obtain ⟨_, _, _, _, _, hz, hn⟩ := hW
   refine ⟨hok, _, _, ([] ++ pa) ++ pv, ⟨[] ++ pa, pv, trodAll_append (hargs _ (fun _ _ => rfl)) (hres _ _ _), hvars _ (fun _ _ => rfl), rfl, ?_, ?_⟩, ?_⟩
   · intro b off hp
     have hin : MemPlace.cell b off ∈ before := by rw [hps]; simpa using hp
     rw [hb.frozen (hlt _ hin)]
     exact hz b off hin
   · intro ha
     have := hn ha
     rw [hps] at this
     simpa using this
   · intro p hp _
     rw [hps]
     simpa using hp
end
/-- How the engine holds a value of u. -/
def valU : (u : U) → El u → SV
 | .pr u v, x => .c (.agg (listU (.pr u v) x 0 (sz (.pr u v))))
 | .arr n u, x => .c (.agg (listU (.arr n u) x 0 (sz (.arr n u))))
 | .int k, x => .c (.one (.d (cellU (.int k) x 0)))
 | .u8, x => .c (.one (.d (cellU .u8 x 0)))
 | .bool, x => .c (.one (.d (cellU .bool x 0)))
 | .str, x => .c (.one (.d (cellU .str x 0)))
 | .adr, x => .c (.one (.d (cellU .adr x 0)))
 | .hdl, x => .c (.one (.d (cellU .hdl x 0)))
 | .fn, x => .c (.one (.d (cellU .fn x 0)))
 | .sl u, x => .c (.one (.d (cellU (.sl u) x 0)))
def oneT (P : Program) (t : TypeId) : Bool := match P.underlying t with
 | some (.struct _) => false
 | some (.array _ _) => false
 | some _ => true
 | none => false
def argOK (P : Program) (u : U) (t : TypeId) : Bool := tyU P 20 u t && (oneU u == oneT P t) && Nat.beq (P.cellsOf t) (sz u) && P.readableRec t && Nat.blt t P.types.size
section
variable {H : Type} {enc : TypeId × Value → H} {W : World} {P : Program} {ρ : Nat → Pl} {I : Nat → Prop}
theorem denL_listU {u : U} {x : El u} {cs : List Value} (hd : DenU I W u x (fun j => cs[j]?)) : ∀ (n o : Nat), o + n ≤ sz u → o + n ≤ cs.length → DenL ρ I W (listU u x o n) ((cs.drop o).take n)
 | 0, o, _, _ => by simp [listU, DenL]
 | n + 1, o, h, hl => by
   obtain ⟨v, hv, hv2⟩ := DenU.cell u x _ o hd (by omega)
   refine ⟨v, (cs.drop (o + 1)).take n, ?_, hv2, denL_listU hd n (o + 1) (by omega) (by omega)⟩
   have := (List.getElem?_eq_some_iff.1 hv).2
   rw [List.drop_eq_getElem_cons (by omega : o < cs.length), List.take_succ_cons, this]
theorem cells_one {t : TypeId} {v : Value} {base : Nat} (h1 : oneT P t = true) (h : Value.okWide P W .any base t v) {fuel : Nat} {sp : Nat → Bool} {u : U} {n : Nat} {x : DataW H × List MemPlace} (hu : tyU P n u t = true) (h2 : oneU u = true) : v.cells.toList = [v] := by
 cases n with
 | zero => simp [tyU] at hu
 | succ n =>
   unfold tyU at hu
   split at hu
   case h_1 k k' ht => obtain ⟨n, rfl⟩ := okWide_int ht h; rfl
   case h_2 k ht => obtain ⟨n, rfl⟩ := okWide_int ht h; rfl
   case h_3 ht => obtain ⟨n, rfl⟩ := okWide_bool ht h; rfl
   case h_4 ht => obtain ⟨n, rfl⟩ := okWide_string ht h; rfl
   case h_5 e v ht => obtain ⟨a, b, c, rfl⟩ := okWide_slice ht h; rfl
   case h_6 => simp [oneU] at h2
   case h_7 fs u ht => simp [oneT, ht] at h1
   case h_8 => cases hu
theorem cells_agg {t : TypeId} {v : Value} {base : Nat} (h1 : oneT P t = false) (h : Value.okWide P W .any base t v) {n : Nat} {u : U} (hu : tyU P n u t = true) : ∃ cs, v = .agg cs ∧ cs.size = P.cellsOf t := by
 cases n with
 | zero => simp [tyU] at hu
 | succ n =>
   unfold tyU at hu
   unfold Value.okWide at h
   split at hu
   case h_1 k k' ht => simp [oneT, ht] at h1
   case h_2 k ht => simp [oneT, ht] at h1
   case h_3 ht => simp [oneT, ht] at h1
   case h_4 ht => simp [oneT, ht] at h1
   case h_5 e v ht => simp [oneT, ht] at h1
   case h_6 k e k' v ht => rw [ht] at h; obtain ⟨cs, h1, h2, _⟩ := h; exact ⟨cs, h1, h2⟩
   case h_7 fs u ht => rw [ht] at h; obtain ⟨cs, h1, h2, _⟩ := h; exact ⟨cs, h1, h2⟩
   case h_8 => cases hu
/-- One argument. -/
theorem arg_one {u : U} {t : TypeId} {v : Value} {d : DataW H} {ps : List MemPlace} {base : Nat} {sp : Nat → Bool} (h : argOK P u t = true) (hok : Value.okWide P W .any base t v) (hT : DataW.Trod enc P W 0 sp true t v d ps) :
   ∃ a : El u, DenV ρ (fun b => b < W.heap.size) W (valU u a) v ∧ bulkU u a ≤ Rows.uptoBulk d ∧ RngU u a := by
 simp only [argOK, Bool.and_eq_true, Nat.beq_eq, beq_iff_eq] at h
 obtain ⟨⟨⟨⟨h1, h2⟩, h3⟩, _⟩, _⟩ := h
 obtain ⟨n, hn⟩ := hT
 obtain ⟨a, q1, q2, q3⟩ := rdU _ _ _ h1 _ _ _ hn
 refine ⟨a, ?_, q2, q3⟩
 cases ho : oneU u with
 | true =>
   rw [cells_one (x := (d, ps)) (fuel := n) (sp := sp) (by rw [← h2, ho]) hok h1 ho] at q1
   obtain ⟨v', e1, e2⟩ := DenU.cell u a _ 0 q1 (by rcases u with _ | _ | _ | _ | _ | _ | _ <;> simp [sz, oneU] at *)
   simp only [List.getElem?_cons_zero, Option.some.injEq] at e1
   subst e1
   cases u <;> first | exact e2 | (simp [oneU] at ho)
 | false =>
   obtain ⟨cs, rfl, hsz⟩ := cells_agg (by rw [← h2, ho]) hok h1
   have hl : cs.toList.length = sz u := by rw [Array.length_toList]; omega
   have := denL_listU (ρ := ρ) q1 (sz u) 0 (by omega) (by simpa [Value.cells] using (show 0 + sz u ≤ cs.toList.length by omega))
   rw [List.drop_zero, List.take_of_length_le (by simp only [Value.cells]; omega)] at this
   cases u <;> first | exact ⟨_, rfl, this⟩ | (simp [oneU] at ho)
/-- All arguments. -/
def Vals : List U → Type
 | [] => Unit
 | u :: us => El u × Vals us
def argsV : (us : List U) → Vals us → List SV
 | [], _ => []
 | u :: us, x => valU u x.1 :: argsV us x.2
noncomputable def bulkV : (us : List U) → Vals us → Nat
 | [], _ => 0
 | u :: us, x => bulkU u x.1 + bulkV us x.2
def RngV : (us : List U) → Vals us → Prop
 | [], _ => True
 | u :: us, x => RngU u x.1 ∧ RngV us x.2
def argsOK (P : Program) : List U → List TypeId → Bool
 | [], [] => true
 | u :: us, t :: ts => argOK P u t && argsOK P us ts
 | _, _ => false
theorem args_of {base : Nat} {sp : Nat → Bool} : ∀ (us : List U) (ts : List TypeId) (vs : List Value) (ds : List (DataW H)) (ps : List MemPlace), argsOK P us ts = true → (∀ (j : Nat) t v, ts[j]? = some t → vs[j]? = some v → Value.okWide P W .any base t v) →
   DataW.TrodAll enc P W 0 sp true ts vs ds ps → ∃ a : Vals us, vs.length = (argsV us a).length ∧ (∀ (i : Nat) (s : SV) (x : Value), (argsV us a)[i]? = some s → vs[i]? = some x → DenV ρ (fun b => b < W.heap.size) W s x) ∧ bulkV us a ≤ Rows.uptoBulkAll ds ∧ RngV us a
 | [], [], vs, ds, ps, _, _, hT => by
   obtain ⟨rfl, rfl, rfl⟩ := trodAll_nil hT
   exact ⟨(), rfl, fun i s x h => by simp [argsV] at h, Nat.zero_le _, trivial⟩
 | [], _ :: _, _, _, _, h, _, _ => by simp [argsOK] at h
 | _ :: _, [], _, _, _, h, _, _ => by simp [argsOK] at h
 | u :: us, t :: ts, vs, ds, ps, h, hok, hT => by
   simp only [argsOK, Bool.and_eq_true] at h
   obtain ⟨v, vs, d, ds, p, q, rfl, rfl, rfl, h0, hr⟩ := trodAll_cons hT
   obtain ⟨a, a1, a2, a3⟩ := arg_one (ρ := ρ) h.1 (hok 0 t v rfl rfl) h0
   obtain ⟨b, b1, b2, b3, b4⟩ := args_of us ts vs ds q h.2 (fun j t v h1 h2 => hok (j + 1) t v h1 h2) hr
   refine ⟨(a, b), by simp [argsV, b1], fun i s x h1 h2 => ?_, by simp only [bulkV, Rows.uptoBulkAll]; omega, a3, b4⟩
   match i with
   | 0 => simp only [argsV, List.getElem?_cons_zero, Option.some.injEq] at h1 h2; subst h1 h2; exact a1
   | i + 1 => exact b2 i s x (by simpa [argsV] using h1) (by simpa using h2)
theorem args_again (laid : laidOutB P = true) {W' : World} {sp' : Nat → Bool} : ∀ (us : List U) (ts : List TypeId) (vs : List Value) (ds : List (DataW H)) (ps : List MemPlace), argsOK P us ts = true →
   DataW.TrodAll enc P W 0 (fun _ => true) true ts vs ds ps → Below W.heap.size W W' → (∀ x ∈ ps, x.block < W.heap.size) → (∀ x ∈ ps, sp' x.block = true) → DataW.TrodAll enc P W' 0 sp' true ts vs ds ps
 | [], [], vs, ds, ps, _, hT, _, _, _ => by
   obtain ⟨rfl, rfl, rfl⟩ := trodAll_nil hT
   exact trodAll_mk0
 | [], _ :: _, _, _, _, h, _, _, _, _ => by simp [argsOK] at h
 | _ :: _, [], _, _, _, h, _, _, _, _ => by simp [argsOK] at h
 | u :: us, t :: ts, vs, ds, ps, h, hT, hb, hlt, hsp => by
   simp only [argsOK, Bool.and_eq_true] at h
   obtain ⟨v, vs, d, ds, p, q, rfl, rfl, rfl, h0, hr⟩ := trodAll_cons hT
   have h1 := h.1
   simp only [argOK, Bool.and_eq_true, Nat.blt_eq] at h1
   exact trodAll_cons_mk (WideElems.Trod_stays laid h1.1.2 h1.2 h0 (fun x hx => hb.same (hlt x (by simp [hx]))) (fun x hx => hsp x (by simp [hx]))) (args_again laid us ts vs ds q h.2 hr hb (fun x hx => hlt x (by simp [hx])) (fun x hx => hsp x (by simp [hx])))
/-- A contract, as a call. -/
theorem Fn.calls {f : FuncId} {args : List SV} (hF : Fn P f args [] [] (vB true) []) (vals : Array Value) (hl : vals.toList.length = args.length)
   (hd : ∀ (i : Nat) (s : SV) (x : Value), args[i]? = some s → vals.toList[i]? = some x → DenV ρ (fun b => b < W.heap.size) W s x) : Calls P f vals W fun e W' => e = .returned (.bool true) ∧ Below W.heap.size W W' := by
 have h := hF.2 ρ (fun _ _ => False) (fun b => b < W.heap.size) W vals.toList (fun b h => h) (fun c ch hc => by simp [lookB] at hc) (fun c ch hc => by simp [lookB] at hc) (fun c c' ch ch' b hc => by simp [lookB] at hc) hl hd
 rw [Array.toArray_toList] at h
 refine h.mono ?_
 rintro e W' ⟨x, ρ', F', rfl, hfr, -, I', -, -, -, -, -, hx⟩
 rw [show x = .bool true from hx]
 exact ⟨rfl, hfr.below (Nat.le_refl _) (by rintro i _ ⟨c, ch, hc, _⟩; simp [lookB] at hc)⟩
end
theorem own_knob : ownKnob Tryz.prog.godebug = none := by kernel_rfl
theorem laid_ok : laidOutB Tryz.prog = true := by kernel_rfl
set_option maxRecDepth 100000 in
/-- A law's function does as its row says. -/
theorem row_of {H : Type} {enc : TypeId × Value → H} {W : World} {args : Array Value} {ds gs : List (DataW H)} {before : List MemPlace} {base : Nat} (f : FuncId) (fn : Func) (s : ChangeSpec) (us : List U) (n : Nat)
   (hres : fn.resultTypes = #[4]) (hvars : s.vars = []) (hty : argsOK Tryz.prog us fn.params.toList = true)
   (hfn : ∀ ds : List (DataW H), ds.length = fn.params.toList.length → (s.fn H ds).results = [.lit (.bool true)] ∧ (s.fn H ds).vars = [] ∧ (s.fn H ds).args = ds)
   (hval : ∀ (j : Nat) t v, fn.params[j]? = some t → args[j]? = some v → Value.okWide Tryz.prog W .any base t v)
   (hW : DataW.Whole enc Tryz.prog fn.params.toList s.vars false W args.toList ds gs before) (hk : Rows.uptoBulkAll (ds ++ gs) ≤ n)
   (hF : ∀ a : Vals us, bulkV us a ≤ n → RngV us a → Fn Tryz.prog f (argsV us a) [] [] (vB true) []) :
   Calls Tryz.prog f args W fun e W' => ∃ v, e = .returned v ∧ s.post enc Tryz.prog fn false true false false W args v W' := by
 have hW' := hW
 have hlt := hW.lt
 obtain ⟨p, q, hA, hV, rfl, hfz, hnd⟩ := hW
 rw [hvars] at hV
 obtain ⟨rfl, rfl⟩ := trodVars_none hV
 simp only [List.append_nil] at hW' hk hlt
 obtain ⟨a, a1, a2, a3, a4⟩ := args_of (ρ := fun _ => ⟨0, none, 0, 0⟩) us fn.params.toList args.toList ds p hty (fun j t v h1 h2 => hval j t v (by simpa using h1) (by simpa using h2)) hA
 have hlen : ds.length = fn.params.toList.length := by
   have : ∀ (ts : List TypeId) (vs : List Value) (ds : List (DataW H)) (ps : List MemPlace), DataW.TrodAll enc Tryz.prog W 0 (fun _ => true) true ts vs ds ps → ds.length = ts.length := fun ts => by
     induction ts with
     | nil => intro vs ds ps h; obtain ⟨_, rfl, _⟩ := trodAll_nil h; rfl
     | cons t ts ih => intro vs ds ps h; obtain ⟨v, vs, d, ds, p, q, rfl, rfl, rfl, h0, hr⟩ := trodAll_cons h; simp [ih _ _ _ hr]
   exact this _ _ _ _ hA
 obtain ⟨r1, r2, r3⟩ := hfn ds hlen
 refine ((hF a (by omega) a4).calls args a1 a2).mono fun e W' ⟨he, hb⟩ => ?_
 subst he
 refine ⟨_, rfl, post_of_below (pa := p) (pv := []) hW' ?_ ?_ ?_ (by simp) hb ?_⟩
 · intro b sp hd
   rw [List.append_nil, r1, hres]
   exact trodAll_cons_mk (shut_bool Tryz.underlying4 _) trodAll_mk0
 · intro sp hsp
   rw [List.append_nil, r3]
   exact args_again laid_ok us _ _ _ _ hty hA hb (fun x hx => hlt x (by simpa using hx)) (fun x hx => hsp x (by simpa using hx))
 · intro sp hsp
   rw [List.append_nil, r2, hvars]
   rfl
 · exact Go.RowKit.ok_one hres rfl (okWide_bool_mk Tryz.underlying4 _)
end Go.Proofs.YteoamepgonpdlaaGreat
/-!
  Facts of the whole program, each proved by itself, for the rows of a seat with many functions.
-/
namespace Go.Proofs.YteoamepgonpdlaaGreat
set_option maxRecDepth 100000
open Go.ChangeShapes Go.WideShapes Go.ChangeAt Go.RowKit
theorem band2 {a b : Bool} (h : a = true) (k : b = true) : (a && b) = true := by rw [h, k]; rfl
/-- A row with the defaults. -/
def row0 : OpenClaim := { program := "", sum := "", func := "", spec := "" }
theorem fcLaid : laidOutB Tryz.prog = true := by kernel_rfl
theorem fcMaps : mapsRowed Tryz.prog = true := by kernel_rfl
theorem fcPlain : (row0.plainKeys == Tryz.prog.plainKeys) = true := by kernel_rfl
theorem fcEnter : Tryz.prog.mayEnter = true := by kernel_rfl
theorem fcLift : (row0.lifted == Tryz.prog.liftsFinal) = true := by kernel_rfl
theorem fcMake : (Tryz.prog.make == some row0.make) = true := by kernel_rfl
end Go.Proofs.YteoamepgonpdlaaGreat
/-!
  DERIVED: THE SHELF's CONTRACTS AT THIS DUMP, IN PLAIN WORDS (tools/lay-plain.mjs out of 'YteoamepgonpdlaaGreatLays.lean', which tools/lay-shelf.mjs wrote): THE SAME DECLARATIONS UNDER THE SAME NAMES: 'import', 'namespace', 'open', 'def', 'theorem' AND NOTHING ELSE: no command of the shelf's: FOR A HAND-IN. Each laying: the table of numbers ('.._ren') and one theorem, a field a fact of the dump's own or the kernel's comparison; each contract: ONE APPLICATION.
-/
namespace Go.Proofs
open Go.Shelf
def Tryz.keys104_ren : Go.Shelf.Ren := ⟨fun | 7 => 104 | 10 => 130 | n => n, fun | 23 => 97 | 26 => 9 | 3 => 127 | 28 => 183 | 0 => 0 | 27 => 182 | 33 => 166 | 4 => 4 | n => n, fun | n => n⟩
theorem Tryz.keys104 : Go.Proofs.SlLaysZ.n7 Tryz.prog Tryz.keys104_ren := {
 mixed := by kernel_rfl
 f7 := ⟨Tryz.f104.name, by decide, Tryz.func104.trans (congrArg some (by kernel_rfl))⟩
 f10 := ⟨Tryz.f130.name, by decide, Tryz.func130.trans (congrArg some (by kernel_rfl))⟩
 t0 := Tryz.underlying0
 a0 := Tryz.isAgg0
 z0 := Tryz.sizeOf0
 v0 := Tryz.zeroValue0
 t4 := Tryz.underlying4
 a4 := Tryz.isAgg4
 z4 := Tryz.sizeOf4
 v4 := Tryz.zeroValue4
 t23 := Tryz.underlying97
 a23 := Tryz.isAgg97
 z23 := Tryz.sizeOf97
 v23 := Tryz.zeroValue97
 t26 := Tryz.underlying9
 a26 := Tryz.isAgg9
 z26 := Tryz.sizeOf9
 v26 := Tryz.zeroValue9
 t27 := Tryz.underlying182
 a27 := Tryz.isAgg182
 z27 := Tryz.sizeOf182
 v27 := Tryz.zeroValue182
 t28 := Tryz.underlying183
 a28 := Tryz.isAgg183
 z28 := Tryz.sizeOf183
 v28 := Tryz.zeroValue183
 t33 := Tryz.underlying166
 a33 := Tryz.isAgg166
 z33 := Tryz.sizeOf166
 v33 := Tryz.zeroValue166 }
def Tryz.sorted103_ren : Go.Shelf.Ren := ⟨fun | 6 => 103 | 8 => 128 | 9 => 129 | 11 => 147 | 13 => 149 | 12 => 148 | 23 => 163 | 24 => 164 | 14 => 154 | 15 => 155 | 16 => 156 | 17 => 157 | 18 => 158 | 19 => 159 | 20 => 160 | 21 => 161 | 22 => 162 | 25 => 167 | 26 => 168 | 27 => 169 | 28 => 170 | 29 => 171 | 30 => 172 | 31 => 174 | n => n, fun | 26 => 9 | 28 => 183 | 24 => 102 | 0 => 0 | 3 => 3 | 37 => 236 | 48 => 248 | 50 => 250 | 4 => 4 | 40 => 241 | 39 => 240 | 45 => 71 | 5 => 5 | 9 => 9 | 51 => 253 | 55 => 257 | 57 => 259 | 58 => 142 | 33 => 166 | n => n, fun | n => n⟩
theorem Tryz.sorted103 : Go.Proofs.SlLaysZ.n6 Tryz.prog Tryz.sorted103_ren := {
 mixed := by kernel_rfl
 f6 := ⟨Tryz.f103.name, by decide, Tryz.func103.trans (congrArg some (by kernel_rfl))⟩
 f8 := ⟨Tryz.f128.name, by decide, Tryz.func128.trans (congrArg some (by kernel_rfl))⟩
 f11 := ⟨Tryz.f147.name, by decide, Tryz.func147.trans (congrArg some (by kernel_rfl))⟩
 t0 := Tryz.underlying0
 a0 := Tryz.isAgg0
 z0 := Tryz.sizeOf0
 v0 := Tryz.zeroValue0
 t24 := Tryz.underlying102
 a24 := Tryz.isAgg102
 z24 := Tryz.sizeOf102
 v24 := Tryz.zeroValue102
 t26 := Tryz.underlying9
 a26 := Tryz.isAgg9
 z26 := Tryz.sizeOf9
 v26 := Tryz.zeroValue9
 t28 := Tryz.underlying183
 a28 := Tryz.isAgg183
 z28 := Tryz.sizeOf183
 v28 := Tryz.zeroValue183
 i26 := by kernel_rfl }
def Tryz.sort129_ren : Go.Shelf.Ren := ⟨fun | 6 => 129 | 8 => 149 | 9 => 148 | 19 => 163 | 20 => 164 | 21 => 154 | 22 => 155 | 23 => 156 | 24 => 157 | 25 => 158 | 26 => 159 | 27 => 160 | 28 => 161 | 29 => 162 | 36 => 167 | 31 => 168 | 32 => 169 | 37 => 170 | 38 => 171 | 39 => 172 | 41 => 174 | n => n, fun | 27 => 102 | 29 => 9 | 3 => 3 | 32 => 236 | 26 => 102 | 0 => 0 | 44 => 248 | 46 => 250 | 4 => 4 | 36 => 241 | 35 => 240 | 41 => 71 | 5 => 5 | 9 => 9 | 53 => 253 | 57 => 257 | 63 => 259 | 64 => 142 | n => n, fun | n => n⟩
theorem Tryz.sort129 : Go.Proofs.SlLaysM.n6 Tryz.prog Tryz.sort129_ren := {
 mixed := by kernel_rfl
 f6 := ⟨Tryz.f129.name, by decide, Tryz.func129.trans (congrArg some (by kernel_rfl))⟩
 f8 := Tryz.func149.trans (congrArg some (by kernel_rfl))
 f9 := ⟨Tryz.f148.name, by decide, Tryz.func148.trans (congrArg some (by kernel_rfl))⟩
 f19 := Tryz.func163.trans (congrArg some (by kernel_rfl))
 f20 := Tryz.func164.trans (congrArg some (by kernel_rfl))
 f21 := ⟨Tryz.f154.name, by decide, Tryz.func154.trans (congrArg some (by kernel_rfl))⟩
 f22 := ⟨Tryz.f155.name, by decide, Tryz.func155.trans (congrArg some (by kernel_rfl))⟩
 f23 := ⟨Tryz.f156.name, by decide, Tryz.func156.trans (congrArg some (by kernel_rfl))⟩
 f24 := ⟨Tryz.f157.name, by decide, Tryz.func157.trans (congrArg some (by kernel_rfl))⟩
 f25 := ⟨Tryz.f158.name, by decide, Tryz.func158.trans (congrArg some (by kernel_rfl))⟩
 f26 := ⟨Tryz.f159.name, by decide, Tryz.func159.trans (congrArg some (by kernel_rfl))⟩
 f27 := ⟨Tryz.f160.name, by decide, Tryz.func160.trans (congrArg some (by kernel_rfl))⟩
 f28 := ⟨Tryz.f161.name, by decide, Tryz.func161.trans (congrArg some (by kernel_rfl))⟩
 f29 := ⟨Tryz.f162.name, by decide, Tryz.func162.trans (congrArg some (by kernel_rfl))⟩
 f31 := Tryz.func168.trans (congrArg some (by kernel_rfl))
 f32 := Tryz.func169.trans (congrArg some (by kernel_rfl))
 f36 := ⟨Tryz.f167.name, by decide, Tryz.func167.trans (congrArg some (by kernel_rfl))⟩
 f37 := ⟨Tryz.f170.name, by decide, Tryz.func170.trans (congrArg some (by kernel_rfl))⟩
 f38 := ⟨Tryz.f171.name, by decide, Tryz.func171.trans (congrArg some (by kernel_rfl))⟩
 f39 := ⟨Tryz.f172.name, by decide, Tryz.func172.trans (congrArg some (by kernel_rfl))⟩
 f41 := ⟨Tryz.f174.name, by decide, Tryz.func174.trans (congrArg some (by kernel_rfl))⟩
 t0 := Tryz.underlying0
 a0 := Tryz.isAgg0
 z0 := Tryz.sizeOf0
 v0 := Tryz.zeroValue0
 t3 := Tryz.underlying3
 a3 := Tryz.isAgg3
 z3 := Tryz.sizeOf3
 v3 := Tryz.zeroValue3
 t4 := Tryz.underlying4
 a4 := Tryz.isAgg4
 z4 := Tryz.sizeOf4
 v4 := Tryz.zeroValue4
 t5 := Tryz.underlying5
 a5 := Tryz.isAgg5
 z5 := Tryz.sizeOf5
 v5 := Tryz.zeroValue5
 t9 := Tryz.underlying9
 a9 := Tryz.isAgg9
 z9 := Tryz.sizeOf9
 v9 := Tryz.zeroValue9
 t26 := Tryz.underlying102
 a26 := Tryz.isAgg102
 z26 := Tryz.sizeOf102
 v26 := Tryz.zeroValue102
 t27 := Tryz.underlying102
 a27 := Tryz.isAgg102
 z27 := Tryz.sizeOf102
 v27 := Tryz.zeroValue102
 t29 := Tryz.underlying9
 a29 := Tryz.isAgg9
 z29 := Tryz.sizeOf9
 v29 := Tryz.zeroValue9
 t32 := Tryz.underlying236
 a32 := Tryz.isAgg236
 z32 := Tryz.sizeOf236
 v32 := Tryz.zeroValue236
 t35 := Tryz.underlying240
 a35 := Tryz.isAgg240
 z35 := Tryz.sizeOf240
 v35 := Tryz.zeroValue240
 t36 := Tryz.underlying241
 a36 := Tryz.isAgg241
 z36 := Tryz.sizeOf241
 v36 := Tryz.zeroValue241
 t41 := Tryz.underlying71
 a41 := Tryz.isAgg71
 z41 := Tryz.sizeOf71
 v41 := Tryz.zeroValue71
 t44 := Tryz.underlying248
 a44 := Tryz.isAgg248
 z44 := Tryz.sizeOf248
 v44 := Tryz.zeroValue248
 t46 := Tryz.underlying250
 a46 := Tryz.isAgg250
 z46 := Tryz.sizeOf250
 v46 := Tryz.zeroValue250
 t53 := Tryz.underlying253
 a53 := Tryz.isAgg253
 z53 := Tryz.sizeOf253
 v53 := Tryz.zeroValue253
 t57 := Tryz.underlying257
 a57 := Tryz.isAgg257
 z57 := Tryz.sizeOf257
 v57 := Tryz.zeroValue257
 t63 := Tryz.underlying259
 a63 := Tryz.isAgg259
 z63 := Tryz.sizeOf259
 v63 := Tryz.zeroValue259
 t64 := Tryz.underlying142
 a64 := Tryz.isAgg142
 z64 := Tryz.sizeOf142
 v64 := Tryz.zeroValue142 }
end Go.Proofs
/-!
  Contracts that make something known (an address, for example): calls, regions.
-/
namespace Go.Proofs.YteoamepgonpdlaaGreat
set_option linter.unusedVariables false
set_option linter.unusedSimpArgs false
open Go.RowKit
/-- As Fn; what is made known: of X. -/
def FnX (P : Program) (f : FuncId) (args : List SV) (Bi : BL) (nw : List Nat) {X : Type} (res : X → SV) (Bo : X → BL) : Prop :=
 callable P f = true ∧ ∀ (ρ : Nat → Pl) (F : Nat → Nat → Prop) (I : Nat → Prop) (w : World) (vals : List Value),
   (∀ b, I b → b < w.heap.size) → (∀ c ch, lookB Bi c = some ch → Holds ρ I (F c) w (ρ c) ch) → (∀ c ch, lookB Bi c = some ch → ∀ b, F c b → b < w.heap.size ∧ ¬ I b) →
   (∀ c c' ch ch' b, lookB Bi c = some ch → lookB Bi c' = some ch' → c ≠ c' → F c b → ¬ F c' b) →
   vals.length = args.length → (∀ (i : Nat) (v : SV) (x : Value), args[i]? = some v → vals[i]? = some x → DenV ρ I w v x) →
   Calls P f vals.toArray w fun e w' => ∃ (g : X) (x : Value) (ρ' : Nat → Pl) (F' : Nat → Nat → Prop), e = .returned x ∧ Fr (fun b => ∃ c ch, lookB Bi c = some ch ∧ F c b) w w' ∧ (∀ c, c ∉ nw → ρ' c = ρ c) ∧
     ∃ I' : Nat → Prop, Ext I w I' w' ∧ (∀ b, I' b → b < w'.heap.size ∧ (I b ∨ (∃ c ch, lookB Bi c = some ch ∧ F c b) ∨ w.heap.size ≤ b)) ∧
     (∀ c ch, lookB (Bo g) c = some ch → Holds ρ' I' (F' c) w' (ρ' c) ch) ∧
     (∀ c ch, lookB (Bo g) c = some ch → ∀ b, F' c b → b < w'.heap.size ∧ ¬ I' b ∧ ((∃ c0 ch0, lookB Bi c0 = some ch0 ∧ F c0 b) ∨ w.heap.size ≤ b)) ∧
     (∀ c c' ch ch' b, lookB (Bo g) c = some ch → lookB (Bo g) c' = some ch' → c ≠ c' → F' c b → ¬ F' c' b) ∧ DenV ρ' I' w' (res g) x
theorem Fn.x {P : Program} {f : FuncId} {args : List SV} {Bi : BL} {nw : List Nat} {res : SV} {Bo : BL} (h : Fn P f args Bi nw res Bo) : FnX P f args Bi nw (fun _ : Unit => res) (fun _ => Bo) :=
 ⟨h.1, fun ρ F I w vals a1 a2 a3 a4 a5 a6 => (h.2 ρ F I w vals a1 a2 a3 a4 a5 a6).mono fun e w' q => ⟨(), q⟩⟩
section
variable {P : Program} {tt : Tr} {N : Nat} {ids : List Nat} {o : Oper} {K : KL} {B : BL}
/-- Behind a call: the state is as its contract says. -/
theorem Sat.back {Bi : BL} {nw : List Nat} {r : SV} {Bo : BL} (hsub : subB B Bi) (hfr0 : allFresh ids K B nw = true) (hout : outOK Bi nw Bo = true) {C : Ctx} {a : Act} {w w' : World} {ρ ρ' : Nat → Pl} {F F' : Nat → Nat → Prop} {I' : Nat → Prop} {x : Value} {dst : Option Nat}
   (hn : a.tmps.size = N) (hd : a.defers = C.ds.map markD) (hM : Mem ids C B ρ F w) (hS : Slots K ρ (Imm C B F w) a w) (hlt : ∀ d, dst = some d → d < N)
   (hfr : Fr (fun b => ∃ c ch, lookB Bi c = some ch ∧ F c b) w w') (hρ : ∀ c, c ∉ nw → ρ' c = ρ c) (he2 : ∀ b, I' b → b < w'.heap.size ∧ (Imm C B F w b ∨ (∃ c ch, lookB Bi c = some ch ∧ F c b) ∨ w.heap.size ≤ b))
   (hH : ∀ c ch, lookB Bo c = some ch → Holds ρ' I' (F' c) w' (ρ' c) ch) (hO : ∀ c ch, lookB Bo c = some ch → ∀ b, F' c b → b < w'.heap.size ∧ ¬ I' b ∧ ((∃ c0 ch0, lookB Bi c0 = some ch0 ∧ F c0 b) ∨ w.heap.size ≤ b))
   (hDj : ∀ c c' ch ch' b, lookB Bo c = some ch → lookB Bo c' = some ch' → c ≠ c' → F' c b → ¬ F' c' b) (hden : DenV ρ' I' w' r x) : Sat N ids C (putK dst r K) (applyB (effB Bi Bo) B) (a.put dst x) w' := by
 have hBi : ∀ {c ch}, lookB Bi c = some ch → lookB B c = some ch := fun {c ch} hc => subB_get hsub hc
 have hfresh : ∀ c ∈ nw, (∀ s, (look K s).has c = false) ∧ lookB B c = none ∧ (∀ d ch, lookB B d = some ch → ch.has c = false) ∧ c ∉ ids := fun c hc => fresh_of (allFresh_get hfr0 c hc)
 have hlk : ∀ c, lookB (applyB (effB Bi Bo) B) c = (match lookB Bo c with | some ch => some ch | none => if c ∈ keysB Bi then none else lookB B c) := applyB_all Bi Bi nw Bo B hout
 have hpart : ∀ c ch, lookB (applyB (effB Bi Bo) B) c = some ch → lookB Bo c = some ch ∨ (lookB Bo c = none ∧ c ∉ keysB Bi ∧ lookB B c = some ch) := fun c ch hc => by
   rw [hlk] at hc
   cases hb : lookB Bo c with
   | some ch' => rw [hb] at hc; exact .inl hc
   | none =>
     rw [hb] at hc
     simp only at hc
     split at hc
     · cases hc
     · rename_i hk; exact .inr ⟨rfl, hk, hc⟩
 let F2 : Nat → Nat → Prop := fun c => if c ∈ keysB Bo then F' c else F c
 have hF2 : ∀ c ch, lookB Bo c = some ch → F2 c = F' c := fun c ch hc => if_pos (keysB_mem.2 ⟨ch, hc⟩)
 have hF2' : ∀ c, lookB Bo c = none → F2 c = F c := fun c hc => if_neg (fun hk => by
   obtain ⟨ch, h⟩ := keysB_mem.1 hk
   rw [hc] at h; cases h)
 have hM1 : ∀ c ch, lookB Bo c = some ch → c ∈ keysB Bi ∨ c ∈ nw := fun c ch hc => outOK_get hout (keysB_mem.2 ⟨ch, hc⟩)
 have hnM : ∀ c ch, lookB (applyB (effB Bi Bo) B) c = some ch → (c ∈ keysB Bi ∨ c ∈ nw) → lookB Bo c = some ch := fun c ch hc hM' => by
   rcases hpart c ch hc with h | ⟨h1, h2, h3⟩
   · exact h
   · rcases hM' with h | h
     · exact absurd h h2
     · rw [(hfresh c h).2.1] at h3; cases h3
 have hI2 : Ext I' w' (Imm C (applyB (effB Bi Bo) B) F2 w') w' := fun b hb => by
   obtain ⟨e1, e2⟩ := he2 b hb
   refine ⟨⟨e1, ?_, fun c ch hc hF => ?_⟩, rfl⟩
   · rcases e2 with e2 | ⟨c, ch, e2, e3⟩ | e2
     · exact e2.2.1
     · exact .inr ((hM.own c ch (hBi e2) b e3).2)
     · exact .inr (.inr (hM.fresh e2))
   · rcases hpart c ch hc with h | ⟨h1, h2, h3⟩
     · rw [hF2 c ch h] at hF
       exact (hO c ch h b hF).2.1 hb
     · rw [hF2' c h1] at hF
       rcases e2 with e2 | ⟨d, ch', e2, e3⟩ | e2
       · exact e2.2.2 c ch h3 hF
       · exact hM.disj d c ch' ch b (hBi e2) h3 (fun e => h2 (e ▸ keysB_mem.2 ⟨ch', e2⟩)) e3 hF
       · have := (hM.own c ch h3 b hF).1; omega
 obtain ⟨hM', hE⟩ := hM.step (B' := applyB (effB Bi Bo) B) (ρ' := ρ') (F' := F2) (w' := w') (fun c => c ∈ keysB Bi ∨ c ∈ nw) (fun c => c ∈ nw)
   (hfr.mono fun b _ ⟨c, ch, h1, h2⟩ => ⟨c, ch, hBi h1, .inl (keysB_mem.2 ⟨ch, h1⟩), h2⟩)
   (fun c ch hc hn => by
     rcases hpart c ch hc with h | ⟨_, _, h3⟩
     · exact absurd (hM1 c ch h) hn
     · exact h3)
   hρ
   (fun c hn => by
     cases hb : lookB Bo c with
     | none => exact hF2' c hb
     | some ch => exact absurd (hM1 c ch hb) hn)
   (fun c hc hn => (hfresh c hn).2.2.2 hc) (fun c h => .inr h)
   (fun c ch hc _ d hd hn => by rw [(hfresh d hn).2.2.1 c ch hc] at hd; cases hd)
   (fun c ch hc hM' _ => by
     have hb := hnM c ch hc hM'
     rw [hF2 c ch hb]
     exact Holds.stable hI2 (fun _ _ => rfl) (Nat.le_refl _) ch (fun _ _ => rfl) (hH c ch hb))
   (fun c ch hc hM' b hb => by
     have hbo := hnM c ch hc hM'
     rw [hF2 c ch hbo] at hb
     obtain ⟨e1, _, e3⟩ := hO c ch hbo b hb
     refine ⟨e1, e3.imp (fun ⟨c0, ch0, h1, h2⟩ => ⟨c0, ch0, hBi h1, .inl (keysB_mem.2 ⟨ch0, h1⟩), h2⟩) id⟩)
   (fun c c' ch ch' b hc hc' hM1 hM2 hne hb hb' => by
     have h1 := hnM c ch hc hM1
     have h2 := hnM c' ch' hc' hM2
     rw [hF2 c ch h1] at hb
     rw [hF2 c' ch' h2] at hb'
     exact hDj c c' ch ch' b h1 h2 hne hb hb')
 refine ⟨put_size.trans hn, put_defers.trans hd, ρ', F2, hM', (hS.mono hE fun s d hd => hρ d fun hn => by rw [(hfresh d hn).1 s] at hd; cases hd).putO (fun e he => by rw [hn]; exact hlt e he) (DenV.mono hI2 _ _ (fun _ _ => rfl) hden)⟩
theorem opX_call {f : FuncId} {args : List SV}
   (hex : ∀ (ρ : Nat → Pl) (I : Nat → Prop) (a : Act) (w : World), Slots K ρ I a w → ∃ vals : List Value, (callable P f = true → (execOp a.eval o).run P w = .ok (.enter f vals.toArray) w) ∧ vals.length = args.length ∧ ∀ (i : Nat) (v : SV) (x : Value), args[i]? = some v → vals[i]? = some x → DenV ρ I w v x)
   {X : Type} {Bi : BL} {nw : List Nat} {res : X → SV} {Bo : X → BL} (hfx : FnX P f args Bi nw res Bo) (hsub : subB B Bi) (hfr0 : allFresh ids K B nw = true) (hok : ∀ g, (allFresh ids K B nw && outOK Bi nw (Bo g)) = true)
   {C : Ctx} {a : Act} {w : World} (hs : Sat N ids C K B a w) (hlt : ∀ d, o.dst = some d → d < N) {Kn : Act → World → Prop} {Q : Exit → Act → World → Prop} (hK : ∀ g a' w', Sat N ids C (putK o.dst (res g) K) (applyB (effB Bi (Bo g)) B) a' w' → Kn a' w') : o.wp P a w Kn Q := by
 obtain ⟨hcall, hfn⟩ := hfx
 obtain ⟨hn, hd, ρ, F, hM, hS⟩ := hs
 have hBi : ∀ {c ch}, lookB Bi c = some ch → lookB B c = some ch := fun {c ch} hc => subB_get hsub hc
 obtain ⟨vals, hrun, hvl, hvd⟩ := hex ρ _ a w hS
 have hc := hfn ρ F (Imm C B F w) w vals (fun b hb => hb.1) (fun c ch hc => hM.holds c ch (hBi hc)) (fun c ch hc b hb => ⟨(hM.own c ch (hBi hc) b hb).1, fun hI => hI.2.2 c ch (hBi hc) hb⟩)
   (fun c c' ch ch' b h1 h2 => hM.disj c c' ch ch' b (hBi h1) (hBi h2)) hvl hvd
 unfold Oper.wp
 rw [hrun hcall, Oper.upon_enter]
 refine hc.mono ?_
 rintro e w' ⟨g, x, ρ', F', rfl, hfr, hρ, I', he1, he2, hH, hO, hDj, hden⟩
 exact hK g _ _ (Sat.back hsub hfr0 (Bool.and_eq_true _ _ ▸ hok g).2 hn hd hM hS hlt hfr hρ he2 hH hO hDj hden)
theorem FnX.of (hP : TblOK P tt) {f : FuncId} {fn : Func} {c : Code} (stops : List Nat) (args : List SV) (Bi : BL) (nw : List Nat) {X : Type} (res : X → SV) (Bo : X → BL) (hf : P.funcs[f]? = some fn) (hb : fn.body = some c) (hn : fn.ntmps = N) (hcall : callable P f = true) (hc : codeOK P N c = true) (hargs : Nat.ble args.length N = true) (hD : DrawOK P tt N (keysB Bi)) {rs : List ResultVar} (hrs : fn.results.toList = rs)
   (h : vc P tt N (keysB Bi) stops c (argsK 0 args) Bi (fun e K B => ∃ g, RetQ tt (keysB Bi) nw rs (res g) (Bo g) e K B)) : FnX P f args Bi nw res Bo := by
 refine ⟨hcall, ?_⟩
 intro ρ F I w vals hI hH hF hdj hlen hden
 have hargs := Nat.le_of_ble_eq_true hargs
 refine in_calls (r := none) (n := 0) (callsIn_of_wp_marks hf hb trivial ?_)
 let C : Ctx := ⟨w, I, fun b => ∃ c ch, lookB Bi c = some ch ∧ F c b, ρ, []⟩
 have hImm : Ext I w (Imm C Bi F w) w := fun b hb => ⟨⟨hI b hb, .inl hb, fun c ch hc hFb => (hF c ch hc b hFb).2 hb⟩, rfl⟩
 have hM : Mem (keysB Bi) C Bi ρ F w := ⟨Fr.refl _ _, fun c ch hc => Holds.stable hImm (fun _ _ => rfl) (Nat.le_refl _) ch (fun _ _ => rfl) (hH c ch hc), fun c ch hc b hb => ⟨(hF c ch hc b hb).1, .inl ⟨c, ch, hc, hb⟩⟩, hdj, fun c _ => rfl, List.nodup_nil, fun b hb => hb.elim (hI b) fun ⟨c, ch, hc, hF'⟩ => (hF c ch hc b hF').1, fun D hD => by cases hD⟩
 refine vc_sound hP hD stops c _ _ _ hc h none (fun _ => rfl) C _ ?_ _ w ⟨by simp [hlen, hn]; omega, rfl, ρ, F, hM, fun s => ?_⟩
 · intro e K' B' ds _ he a' w' hs'
   obtain ⟨g, he⟩ := he
   cases e with
   | ex i => exact he.elim
   | _ =>
     obtain ⟨K2, B2, r, hle, hr, hp, hsub, ham⟩ := he
     refine leave_sat hs' fun w' hs' => ?_
     obtain ⟨hn2, hd2, ρ', F', hM', hS'⟩ := hle N C _ w' hs'
     obtain ⟨vs, hrun, hvs⟩ : ∃ vs : List Value, (rs.mapM (resV a'.tmps)).run P w' = .ok vs w' ∧ DenCL ρ' (Imm C B2 F' w') w' r vs := run_res hP hM' hS' rs r hr
     have hres : ∃ x, (results fn a'.tmps).run P w' = .ok x w' ∧ DenV ρ' (Imm C B2 F' w') w' (packR r) x := by
       have h1 : fn.results = rs.toArray := by rw [← hrs]
       have h2 : (fn.results.mapM (resV a'.tmps)).run P w' = .ok (List.toArray vs) w' := by
         rw [h1, List.mapM_toArray]
         simp [hrun]
       have h3 : results fn a'.tmps = (do let vs ← fn.results.mapM (resV a'.tmps); pure (if h : vs.size = 1 then vs[0] else .tuple vs)) := rfl
       rw [h3]
       match r, vs, hvs, h2 with
       | [], _, e, h2 => rw [show _ = [] from e] at h2; exact ⟨.tuple #[], by simp [h2], [], rfl, rfl⟩
       | [x], _, ⟨v, s, e, hv, hs⟩, h2 =>
         have hs : s = [] := hs
         subst hs e
         exact ⟨v, by simp [h2], hv⟩
       | x :: y :: r, _, ⟨v, s, e, hv, v2, s2, e2, hv2, hs2⟩, h2 =>
         subst e2 e
         exact ⟨.tuple (List.toArray (v :: v2 :: s2)), by simp [h2], _, rfl, v, _, rfl, hv, v2, s2, rfl, hv2, hs2⟩
     obtain ⟨x, hx, hxd⟩ := hres
     have hxd := leV_den hp hxd
     simp only [Bool.and_eq_true] at ham
     let ρ2 : Nat → Pl := fun c => if c ∈ nw then ρ' c else ρ c
     have hρ2 : ∀ c, c ∈ keysB Bi ++ nw → ρ2 c = ρ' c := fun c hc => by
       show (if c ∈ nw then ρ' c else ρ c) = ρ' c
       split
       · rfl
       · rename_i hn
         rcases List.mem_append.1 hc with h | h
         · exact (hM'.keep c h).symm
         · exact absurd h hn
     refine ⟨x, hx, g, x, ρ2, F', rfl, hM'.fr, fun c hc => if_neg hc, Imm C B2 F' w', ?_, fun b hb => ⟨hb.1, ?_⟩, ?_, ?_, ?_, ?_⟩
     · intro b hb
       have hnF : ¬ C.F0 b := fun ⟨c, ch, h1, h2⟩ => (hF c ch h1 b h2).2 hb
       refine ⟨⟨Nat.lt_of_lt_of_le (hI b hb) hM'.fr.size, .inl hb, fun c ch hc hFb => ?_⟩, hM'.fr.block b (hI b hb) hnF⟩
       rcases (hM'.own c ch hc b hFb).2 with h | h
       · exact hnF h
       · have := hI b hb; exact absurd h.1 (Nat.not_le.2 this)
     · rcases hb.2.1 with h | h | h
       · exact .inl h
       · exact .inr (.inl h)
       · exact .inr (.inr h.1)
     · intro c ch hc
       have hk : c ∈ keysB Bi ++ nw := by
         have := List.all_eq_true.1 ham.2 c (keysB_mem.2 ⟨ch, hc⟩)
         simpa only [List.contains_iff_mem] using this
       rw [hρ2 c hk]
       exact Holds.stable (Ext.refl _ _) (fun _ _ => rfl) (Nat.le_refl _) ch (fun d hd => hρ2 d (Ch.among_has (amongB_get ham.1.2 hc) hd)) (hM'.holds c ch (subB_get hsub hc))
     · intro c ch hc b hb
       have hc' := subB_get hsub hc
       exact ⟨(hM'.own c ch hc' b hb).1, fun hi => hi.2.2 c ch hc' hb, (hM'.own c ch hc' b hb).2.imp id fun x => x.1⟩
     · exact fun c c' ch ch' b h1 h2 => hM'.disj c c' ch ch' b (subB_get hsub h1) (subB_get hsub h2)
     · exact DenV.mono (Ext.refl _ _) (res g) x (fun c hc => hρ2 c (SV.among_has ham.1.1 hc)) hxd
 · rw [look_argsK]
   simp only [Nat.zero_le, if_true, Nat.sub_zero]
   cases hs : args[s]? with
   | none => trivial
   | some v =>
     have hlt : s < vals.length := by rw [hlen]; exact (List.getElem?_eq_some_iff.1 hs).1
     simp only [Option.getD_some]
     have hx : vals[s]? = some vals[s] := List.getElem?_eq_getElem hlt
     have := DenV.mono hImm v _ (fun _ _ => rfl) (hden s v _ hs hx)
     simpa [Array.getElem?_append, hlt, hx] using this
/-! ### regions -/
def callOf (K : KL) (o : Oper) : Option (FuncId × List SV) := match o.op with
 | .call c => match c.callee with
   | .value (.func f) => some (f, c.args.toList.map (opv K))
   | .value (.tmp t) => match look K t with
     | .c (.one (.clo f l)) => some (f, c.args.toList.map (opv K) ++ capV l)
     | _ => none
   | _ => none
 | _ => none
def vcCallX (P : Program) (f : FuncId) (args : List SV) (ids : List Nat) (K : KL) (B : BL) (k : SV → Eff → Prop) : Prop :=
 ∃ (X : Type) (Bi : BL) (nw : List Nat) (res : X → SV) (Bo : X → BL), FnX P f args Bi nw res Bo ∧ subB B Bi ∧ allFresh ids K B nw = true ∧ (∀ g, (allFresh ids K B nw && outOK Bi nw (Bo g)) = true) ∧ ∀ g, forceV (res g) fun r => k r ⟨keysB Bi, nw, effB Bi (Bo g)⟩
/-- An operation that may come out in several ways: S tells each. -/
def OpS (P : Program) (ids : List Nat) (o : Oper) (K : KL) (B : BL) (S : SV → Eff → Prop) : Prop :=
 ∀ (N : Nat) (C : Ctx) (a : Act) (w : World), Sat N ids C K B a w → (∀ d, o.dst = some d → d < N) → ∀ (Kn : Act → World → Prop) (Q : Exit → Act → World → Prop), (∀ v e a' w', S v e → Sat N ids C (putK o.dst v K) (applyB e.wc B) a' w' → Kn a' w') → o.wp P a w Kn Q
def isX (o : Oper) : Bool := match o.op with
 | .next _ _ => true
 | .binOp .eql _ _ (.const (.slice none 0 0)) _ => true
 | .call c => match c.callee with
   | .builtin .delete => true
   | _ => false
 | _ => false
/-- A round of a range over a function, asked for by a call of yield. -/
def YieldX (P : Program) (l : Nat) (args : List SV) (Bi : BL) {X : Type} (res : X → SV) (Bo : X → BL) : Prop :=
 ∀ (ρ : Nat → Pl) (F : Nat → Nat → Prop) (I : Nat → Prop) (w : World) (vals : List Value),
   (∀ b, I b → b < w.heap.size) → (∀ c ch, lookB Bi c = some ch → Holds ρ I (F c) w (ρ c) ch) → (∀ c ch, lookB Bi c = some ch → ∀ b, F c b → b < w.heap.size ∧ ¬ I b) →
   (∀ c c' ch ch' b, lookB Bi c = some ch → lookB Bi c' = some ch' → c ≠ c' → F c b → ¬ F c' b) →
   vals.length = args.length → (∀ (i : Nat) (v : SV) (x : Value), args[i]? = some v → vals[i]? = some x → DenV ρ I w v x) →
   ∃ f tmps assign body, (Instr.yield l vals.toArray).run P w = .ok (.round l f tmps assign body) w ∧ RoundIn (wideR none) 0 P l f tmps assign body w fun e w' => ∃ (g : X) (x : Value) (ρ' : Nat → Pl) (F' : Nat → Nat → Prop), e = .returned x ∧ Fr (fun b => ∃ c ch, lookB Bi c = some ch ∧ F c b) w w' ∧ (∀ c, ρ' c = ρ c) ∧
     ∃ I' : Nat → Prop, Ext I w I' w' ∧ (∀ b, I' b → b < w'.heap.size ∧ (I b ∨ (∃ c ch, lookB Bi c = some ch ∧ F c b) ∨ w.heap.size ≤ b)) ∧
     (∀ c ch, lookB (Bo g) c = some ch → Holds ρ' I' (F' c) w' (ρ' c) ch) ∧
     (∀ c ch, lookB (Bo g) c = some ch → ∀ b, F' c b → b < w'.heap.size ∧ ¬ I' b ∧ ((∃ c0 ch0, lookB Bi c0 = some ch0 ∧ F c0 b) ∨ w.heap.size ≤ b)) ∧
     (∀ c c' ch ch' b, lookB (Bo g) c = some ch → lookB (Bo g) c' = some ch' → c ≠ c' → F' c b → ¬ F' c' b) ∧ DenV ρ' I' w' (res g) x
def yieldOf (K : KL) (o : Oper) : Option (Nat × List SV) := match o.op with
 | .call c => match c.callee with
   | .value (.tmp t) => match look K t with
     | .c (.one (.raw (.func (.yield l) fs cs))) => match fs.toList, cs.toList with
       | [], [] => some (l, c.args.toList.map (opv K))
       | _, _ => none
     | _ => none
   | _ => none
 | _ => none
def vcYield (P : Program) (l : Nat) (args : List SV) (B : BL) (k : SV → Eff → Prop) : Prop :=
 ∃ (X : Type) (Bi : BL) (res : X → SV) (Bo : X → BL), YieldX P l args Bi res Bo ∧ subB B Bi ∧ (∀ g, outOK Bi [] (Bo g) = true) ∧ ∀ g, forceV (res g) fun r => k r ⟨keysB Bi, [], effB Bi (Bo g)⟩
theorem exec_yield {ev : Operand → Value} {l : Nat} {c : Call} {x : Operand} {xs : List Operand} {w : World} (ho : o.op = .call c) (h1 : c.callee = .value x) (h2 : c.args.toList = xs) (hev : ev x = .func (.yield l) #[] #[]) : (execOp ev o).run P w = (Instr.yield l (xs.map ev).toArray).run P w := by
 have hargs : c.args = xs.toArray := by rw [← h2]
 obtain ⟨cal, args, ts⟩ := c
 simp only at h1 hargs
 subst h1 hargs
 simp [execOp, ho, resolve, invoke, hev, Deferred.ofValue]
theorem yieldOf_run {l : Nat} {xs : List SV} (h : yieldOf K o = some (l, xs)) {ρ : Nat → Pl} {I : Nat → Prop} {a : Act} {w : World} (hS : Slots K ρ I a w) : ∃ vals : List Value, (execOp a.eval o).run P w = (Instr.yield l vals.toArray).run P w ∧ (∀ c, o.op ≠ .defer c) ∧ vals.length = xs.length ∧ ∀ (i : Nat) (v : SV) (x : Value), xs[i]? = some v → vals[i]? = some x → DenV ρ I w v x := by
 unfold yieldOf at h
 split at h
 · rename_i c ho
   split at h
   · rename_i t hc
     split at h
     · rename_i l' fs cs hl
       split at h
       · rename_i hfs hcs
         injection h with h
         injection h with h1 h2
         subst h1 h2
         have hfs : fs = #[] := by rw [← Array.toList_inj]; exact hfs
         have hcs : cs = #[] := by rw [← Array.toList_inj]; exact hcs
         subst hfs hcs
         have hv : a.eval (.tmp t) = .func (.yield l') #[] #[] := hS.ev (x := .tmp t) (s := .c (.one (.raw (.func (.yield l') #[] #[])))) hl
         have hnd : ∀ d, o.op ≠ .defer d := fun d e => by rw [ho] at e; cases e
         refine ⟨c.args.toList.map a.eval, ?_, hnd, by simp, fun i v x hv hx => ?_⟩
         · exact exec_yield ho hc rfl hv
         · rw [List.getElem?_map] at hv hx
           obtain ⟨z, hz, rfl⟩ := Option.map_eq_some_iff.1 hv
           rw [hz] at hx
           simp only [Option.map_some, Option.some.injEq] at hx
           subst hx
           exact hS.get z
       · cases h
     · cases h
   · cases h
 · cases h
theorem opX_yield {l : Nat} {args : List SV} (ho : yieldOf K o = some (l, args)) {X : Type} {Bi : BL} {res : X → SV} {Bo : X → BL} (hy : YieldX P l args Bi res Bo) (hsub : subB B Bi) (hok : ∀ g, outOK Bi [] (Bo g) = true)
   {C : Ctx} {a : Act} {w : World} (hs : Sat N ids C K B a w) (hlt : ∀ d, o.dst = some d → d < N) {r : Option Nat} {Kn : Act → World → Prop} {Q : Exit → Act → World → Prop} (hK : ∀ g a' w', Sat N ids C (putK o.dst (res g) K) (applyB (effB Bi (Bo g)) B) a' w' → Kn a' w') : o.wpIn (wideR r) 0 P a w Kn Q := by
 obtain ⟨hn, hd, ρ, F, hM, hS⟩ := hs
 have hBi : ∀ {c ch}, lookB Bi c = some ch → lookB B c = some ch := fun {c ch} hc => subB_get hsub hc
 obtain ⟨vals, hrun, hnd, hvl, hvd⟩ := yieldOf_run (P := P) (w := w) ho hS
 obtain ⟨f, tmps, assign, body, hy1, hy2⟩ := hy ρ F (Imm C B F w) w vals (fun b hb => hb.1) (fun c ch hc => hM.holds c ch (hBi hc)) (fun c ch hc b hb => ⟨(hM.own c ch (hBi hc) b hb).1, fun hI => hI.2.2 c ch (hBi hc) hb⟩)
   (fun c c' ch ch' b h1 h2 => hM.disj c c' ch ch' b (hBi h1) (hBi h2)) hvl hvd
 refine ⟨fun _ _ => trivial, ?_⟩
 rw [Oper.semAt_eq _ _ _ hnd, hrun, hy1, Oper.uponIn_round]
 refine ⟨fun hs => absurd hs (by simp), RoundIn.mono (F := wideR r) (n := 0 - 1) hy2 ?_⟩
 rintro e w' ⟨g, x, ρ', F', rfl, hfr, hρ, I', he1, he2, hH, hO, hDj, hden⟩
 exact hK g _ _ (Sat.back hsub rfl (hok g) hn hd hM hS hlt hfr (fun c _ => hρ c) he2 hH hO hDj hden)
/-- A pointer to a block of the caller's own goes into a map. -/
def ptrUpd (K : KL) (o : Oper) : Bool := match o.op with
 | .mapUpdate _ _ _ v => match opv K v with
   | .c (.one (.ptr _ 0)) => true
   | _ => false
 | _ => false
def vcOpX (P : Program) (tt : Tr) (ids : List Nat) (o : Oper) (K : KL) (B : BL) (k : SV → Eff → Prop) : Prop := match callOf K o with
 | some (f, xs) => vcCallX P f xs ids K B k
 | none => match yieldOf K o with
   | some (l, xs) => vcYield P l xs B k
   | none => match isX o || ptrUpd K o with
     | true => ∃ S : SV → Eff → Prop, OpS P ids o K B S ∧ ∀ v e, S v e → forceV v fun v => k v e
     | false => vcOp P tt ids o K B k
def vcsXS (P : Program) (tt : Tr) (ids : List Nat) (all : List Oper) (o : Oper) (l : List Oper) (ih : KL → BL → Prop) (K : KL) (B : BL) : Prop :=
 match wants all K o.guard with
 | none => False
 | some false => match o.dst with
   | some d => ih ((d, .undef) :: K) B
   | none => ih K B
 | some true => vcOpX P tt ids o K B fun v e => match o.dst with
   | none => ih K (applyB e.wc B)
   | some d => match isG (all.length - l.length - 1) l, v with
     | true, .c (.one (.d (.bool b))) => (b = true → ih ((d, .c (.one (.d (.lit true)))) :: K) (applyB e.wc B)) ∧ (b = false → ih ((d, .c (.one (.d (.lit false)))) :: K) (applyB e.wc B))
     | _, v => ih ((d, v) :: K) (applyB e.wc B)
noncomputable def vcsX (P : Program) (tt : Tr) (ids : List Nat) (all l : List Oper) (K : KL) (B : BL) (k : KL → BL → Prop) : Prop :=
 List.rec (motive := fun _ => KL → BL → Prop) k (fun o l ih K B => vcsXS P tt ids all o l ih K B) l K B
theorem vcsX_cons {all l : List Oper} {k : KL → BL → Prop} : vcsX P tt ids all (o :: l) K B k = vcsXS P tt ids all o l (fun K B => vcsX P tt ids all l K B k) K B := rfl
theorem callOf_sound {f : FuncId} {xs : List SV} (h : callOf K o = some (f, xs)) (ρ : Nat → Pl) (I : Nat → Prop) (a : Act) (w : World) (hS : Slots K ρ I a w) : ∃ vals : List Value, (callable P f = true → (execOp a.eval o).run P w = .ok (.enter f vals.toArray) w) ∧ vals.length = xs.length ∧ ∀ (i : Nat) (v : SV) (x : Value), xs[i]? = some v → vals[i]? = some x → DenV ρ I w v x := by
 unfold callOf at h
 split at h
 · rename_i c ho
   split at h
   · rename_i f' hc
     injection h with h
     injection h with h1 h2
     subst h1 h2
     refine ⟨c.args.toList.map a.eval, fun hcall => exec_call hcall ho hc rfl rfl, by simp, fun i v x hv hx => ?_⟩
     rw [List.getElem?_map] at hv hx
     obtain ⟨z, hz, rfl⟩ := Option.map_eq_some_iff.1 hv
     rw [hz] at hx
     simp only [Option.map_some, Option.some.injEq] at hx
     subst hx
     exact hS.get z
   · rename_i t hc
     split at h
     · rename_i f' l hl
       injection h with h
       injection h with h1 h2
       subst h1 h2
       have hv := hS t
       rw [hl] at hv
       obtain ⟨vs, e, hcp⟩ := hv
       obtain ⟨q1, q2⟩ := DenCaps.vals l vs hcp
       refine ⟨c.args.toList.map a.eval ++ vs, fun hcall => exec_callv hcall ho hc rfl e, by simp [q1], fun i v x hv hx => ?_⟩
       by_cases hi : i < c.args.toList.length
       · rw [List.getElem?_append_left (by simpa using hi)] at hv hx
         rw [List.getElem?_map] at hv hx
         obtain ⟨z, hz, rfl⟩ := Option.map_eq_some_iff.1 hv
         rw [hz] at hx
         simp only [Option.map_some, Option.some.injEq] at hx
         subst hx
         exact hS.get z
       · rw [List.getElem?_append_right (by simpa using hi)] at hv hx
         simp only [List.length_map] at hv hx
         exact q2 _ v x hv hx
     · cases h
   · cases h
 · cases h
theorem vcOpX_sound (hP : TblOK P tt) (hnd : ∀ c, o.op ≠ .defer c) (r : Option Nat) {k : SV → Eff → Prop} (h : vcOpX P tt ids o K B k) {C : Ctx} {a : Act} {w : World} (hs : Sat N ids C K B a w) (hlt : ∀ d, o.dst = some d → d < N) {Kn : Act → World → Prop} {Q : Exit → Act → World → Prop} (hK : ∀ v e a' w', k v e → Sat N ids C (putK o.dst v K) (applyB e.wc B) a' w' → Kn a' w') : o.wpIn (wideR r) 0 P a w Kn Q := by
 unfold vcOpX at h
 split at h
 · rename_i f xs hc
   obtain ⟨X, Bi, nw, res, Bo, h1, h2, h3, h4, h5⟩ := h
   refine op_in hnd (opX_call (callOf_sound hc) h1 h2 h3 h4 hs hlt fun g a' w' hs' => ?_)
   have h5 := h5 g
   rw [forceV_eq] at h5
   exact hK _ _ _ _ h5 hs'
 · split at h
   · rename_i l xs hc
     obtain ⟨X, Bi, res, Bo, h1, h2, h3, h4⟩ := h
     refine opX_yield hc h1 h2 h3 hs hlt fun g a' w' hs' => ?_
     have h4 := h4 g
     rw [forceV_eq] at h4
     exact hK _ _ _ _ h4 hs'
   · split at h
     · obtain ⟨S, hS, h⟩ := h
       refine op_in hnd (hS N C a w hs hlt Kn Q fun v e a' w' hv hs' => ?_)
       have h := h v e hv
       rw [forceV_eq] at h
       exact hK _ _ _ _ h hs'
     · obtain ⟨v, e, h, hO, hf⟩ := vcOp_sound hP h
       exact op_in hnd (hO K B (fun _ _ => rfl) (fun _ _ => rfl) hf C a w hs hlt Kn Q fun a' w' hs2 => hK _ _ _ _ h hs2)
theorem vcsX_seq (hP : TblOK P tt) (all : List Oper) : ∀ (l : List Oper) (K : KL) (B : BL) (k : KL → BL → Prop), dstOK N l = true → vcsX P tt ids all l K B k → ∀ (C : Ctx) (a : Act) (w : World), Sat N ids C K B a w →
   ∀ (r : Option Nat) (Q : Exit → Act → World → Prop), (∀ K' B', k K' B' → ∀ a' w', Sat N ids C K' B' a' w' → Q .normal a' w') → wpListIn (wideR r) 0 P all.toArray Q l a w
 | [], K, B, k, _, h, C, a, w, hs, r, Q, hk => wpListIn_nil (hk K B h a w hs)
 | o :: l, K, B, k, hd, h, C, a, w, hs, r, Q, hk => by
   simp only [dstOK, Bool.and_eq_true] at hd
   obtain ⟨⟨hd0, hnd⟩, hdl⟩ := hd
   have hnd := notDefer hnd
   have hlt : ∀ d, o.dst = some d → d < N := fun d e => by rw [e] at hd0; simpa [Nat.blt_eq] using hd0
   have hs' := hs
   obtain ⟨_, _, ρ, F, hM, hS⟩ := hs'
   rw [vcsX_cons] at h
   unfold vcsXS at h
   refine wpListIn_step fun Kn hKn => ?_
   split at h
   · exact h.elim
   · rename_i hw
     rw [if_neg (by rw [wants_sound hw hS]; simp)]
     refine ⟨fun _ _ => trivial, hKn _ _ ?_⟩
     have hu := hs.undef o.dst hlt
     split at h
     · rename_i d e
       rw [e] at hu ⊢
       exact vcsX_seq hP all l _ _ k hdl h C _ w hu r Q hk
     · rename_i e
       rw [e] at hu ⊢
       exact vcsX_seq hP all l _ _ k hdl h C _ w hu r Q hk
   · rename_i hw
     rw [if_pos (wants_sound hw hS)]
     refine vcOpX_sound hP hnd r h hs hlt fun v e a' w' h hs2 => hKn _ _ ?_
     split at h
     · rename_i e2
       rw [e2] at hs2
       exact vcsX_seq hP all l _ _ k hdl h C _ w' hs2 r Q hk
     · rename_i d e2
       rw [e2] at hs2
       split at h
       · rename_i b hg
         cases b with
         | true => exact vcsX_seq hP all l _ _ k hdl (h.1 rfl) C _ w' hs2.lit r Q hk
         | false => exact vcsX_seq hP all l _ _ k hdl (h.2 rfl) C _ w' hs2.lit r Q hk
       · exact vcsX_seq hP all l _ _ k hdl h C _ w' hs2 r Q hk
theorem TrQ.regionX (hP : TblOK P tt) {id : Nat} {ops : Array Oper} {Q : Ex → KL → BL → Prop} (hd : dstOK N ops.toList = true) (h : vcsX P tt ids ops.toList ops.toList K B (fun K B => Q .nrm K B)) : TrQ P N ids (.region id ops false) K B Q := by
 intro r hr C Qs hq a w hs
 refine wpIn_region_list ?_
 have := vcsX_seq hP ops.toList ops.toList K B _ hd h C a w hs r Qs (fun K' B' hk a' w' hs' => hq .nrm K' B' C.ds (fun _ => rfl) hk a' w' hs')
 simpa using this
/-- From one state to others, of which one holds. -/
def LeX (ids : List Nat) (K : KL) (B : BL) {X : Type} (K' : X → KL) (B' : X → BL) : Prop := ∀ (N : Nat) (C : Ctx) (a : Act) (w : World), Sat N ids C K B a w → ∃ x, Sat N ids C (K' x) (B' x) a w
theorem TrQ.leX {c : Code} {X : Type} {K' : X → KL} {B' : X → BL} {Q : Ex → KL → BL → Prop} (h : LeX ids K B K' B') (ht : ∀ x, TrQ P N ids c (K' x) (B' x) Q) : TrQ P N ids c K B Q := fun r hr C Qs hq a w hs => by
 obtain ⟨x, hx⟩ := h N C a w hs
 exact ht x r hr C Qs hq a w hx
end
end Go.Proofs.YteoamepgonpdlaaGreat
