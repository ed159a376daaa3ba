/-
  What the arguments' reading gives: values of the universe, no greater than the reading; for any type that is of the universe.
-/
import Derived.Test.YtolaecebfkdbcaaGreatCode
import Derived.Test.YtolaecebfkdbcaaGreatRows
import Derived.Test.YtolaecebfkdbcaaGreatProg
import Derived.Deep.Slices
import Derived.Deep.Fields
import Derived.OpenShut
set_option linter.unusedVariables false
set_option linter.unusedSimpArgs false
namespace Go.Proofs.YtolaecebfkdbcaaGreat
open Go.RowKit Go.ChangeShapes Go.WideShapes Go.Deep

/-- How much a value has. -/
noncomputable def bulkU : (u : U) → El u → Nat
  | .int _, _ => 1
  | .u8, _ => 1
  | .bool, _ => 1
  | .str, s => 1 + List.length s
  | .adr, _ => 1
  | .hdl, _ => 1
  | .fn, _ => 1
  | .sl u, xs => 1 + (List.map (bulkU u) xs).sum
  | .pr u v, p => bulkU u p.1 + bulkU v p.2
  | .arr _ u, xs => (List.map (bulkU u) xs).sum
/-- All its numbers fit. -/
def RngU : (u : U) → El u → Prop
  | .int k, n => (Lit.int k n).wf = true
  | .sl u, xs => ∀ x, lmem (α := El u) x xs → RngU u x
  | .pr u v, p => RngU u p.1 ∧ RngU v p.2
  | .arr _ u, xs => ∀ x, lmem (α := El u) x xs → RngU u x
  | _, _ => True

/-- Is the type t of u? -/
def tyFs (P : Program) (ty : U → TypeId → Bool) : U → List Field → Nat → Bool
  | _, [], _ => false
  | u, [f], off => Nat.beq f.offset off && ty u f.type && Nat.beq (P.cellsOf f.type) (sz u)
  | .pr u v, f :: g :: fs, off => Nat.beq f.offset off && ty u f.type && Nat.beq (P.cellsOf f.type) (sz u) && tyFs P ty v (g :: fs) (off + sz u)
  | _, _ :: _ :: _, _ => false
def tyU (P : Program) : Nat → U → TypeId → Bool
  | 0, _, _ => false
  | n + 1, u, t => match P.underlying t, u with
    | some (.int k), .int k' => eqK k k'
    | some (.int k), .u8 => eqK k .u8
    | some .bool, .bool => true
    | some .string, .str => true
    | some (.slice e), .sl v => tyU P n v e && Nat.beq (P.cellsOf e) (sz v) && Nat.blt 0 (sz v)
    | some (.array m e), .arr m' v => Nat.beq m m' && tyU P n v e && Nat.beq (P.cellsOf e) (sz v)
    | some (.struct fs), u => tyFs P (tyU P n) u fs.toList 0
    | _, _ => false


section
variable {H : Type} {enc : TypeId × Value → H} {w : World} {base : Nat} {spare : Nat → Bool} {held : Bool} {P : Program}
theorem bulk_pos (d : DataW H) : 1 ≤ Rows.uptoBulk d := by
  unfold Rows.uptoBulk
  split <;> omega
theorem bulkAll_append (l r : List (DataW H)) : Rows.uptoBulkAll (l ++ r) = Rows.uptoBulkAll l + Rows.uptoBulkAll r := by
  induction l with
  | nil => simp [Rows.uptoBulkAll]
  | cons x l ih => simp only [List.cons_append, Rows.uptoBulkAll, ih]; omega
/-- Cells that read as a value of u. -/
def RdU (w : World) (u : U) (cs : List Value) (b : Nat) : Prop := ∃ a : El u, DenU (fun b => b < w.heap.size) w u a (fun j => cs[j]?) ∧ bulkU u a ≤ b ∧ RngU u a
theorem denU_cells {I : Nat → Prop} {u : U} {a : El u} {c c' : Nat → Option Value} (h : DenU I w u a c) (hc : ∀ j v, c j = some v → c' j = some v) : DenU I w u a c' := DenU.mono (Ext.refl I w) u a c c' hc h
theorem take_drop_get {cs : List Value} {o k j : Nat} {v : Value} (h : ((cs.drop o).take k)[j]? = some v) : cs[o + j]? = some v := by
  rw [List.getElem?_take] at h
  split at h
  · rwa [List.getElem?_drop] at h
  · cases h
theorem rdFs {ty : U → TypeId → Bool} {n : Nat} (ih : ∀ u t, ty u t = true → ∀ cs x, DataW.trod enc P w base spare held n t cs = some x → RdU w u cs (Rows.uptoBulk x.1)) :
    ∀ (fs : List Field) (u : U) (off : Nat) (xs : List (DataW H × List MemPlace)) (cs : List Value), tyFs P ty u fs off = true → xs.length = fs.length →
      (∀ (i : Nat) (f : Field), fs[i]? = some f → DataW.trod enc P w base spare held n f.type ((cs.drop f.offset).take (P.cellsOf f.type)) = xs[i]?) →
      ∃ a : El u, DenU (fun b => b < w.heap.size) w u a (fun j => cs[off + j]?) ∧ bulkU u a ≤ Rows.uptoBulkAll (xs.map (·.1)) ∧ RngU u a
  | [], u, off, xs, cs, h, _, _ => by simp [tyFs] at h
  | [f], u, off, xs, cs, h, hl, hf => by
    simp only [tyFs, Bool.and_eq_true, Nat.beq_eq] at h
    obtain ⟨⟨h1, h2⟩, h3⟩ := h
    match xs, hl with
    | [x], _ =>
      obtain ⟨a, q1, q2, q3⟩ := ih _ _ h2 _ _ (hf 0 f rfl)
      subst h1
      exact ⟨a, denU_cells q1 fun j v hv => take_drop_get hv, by simpa [Rows.uptoBulkAll] using q2, q3⟩
  | f :: g :: fs, .pr u v, off, xs, cs, h, hl, hf => by
    simp only [tyFs, Bool.and_eq_true, Nat.beq_eq] at h
    obtain ⟨⟨⟨h1, h2⟩, h3⟩, h4⟩ := h
    match xs, hl with
    | x :: xs, hl =>
      obtain ⟨a, q1, q2, q3⟩ := ih _ _ h2 _ _ (hf 0 f rfl)
      obtain ⟨b, r1, r2, r3⟩ := rdFs ih (g :: fs) v (off + sz u) xs cs h4 (by simpa using hl) (fun i f hi => hf (i + 1) f hi)
      subst h1
      refine ⟨(a, b), ⟨denU_cells q1 fun j v hv => take_drop_get hv, denU_cells r1 fun j v hv => by simpa only [Nat.add_assoc] using hv⟩, ?_, q3, r3⟩
      simp only [bulkU, List.map_cons, Rows.uptoBulkAll]
      omega
  | _ :: _ :: _, .int _, _, _, _, h, _, _ => by simp [tyFs] at h
  | _ :: _ :: _, .u8, _, _, _, h, _, _ => by simp [tyFs] at h
  | _ :: _ :: _, .bool, _, _, _, h, _, _ => by simp [tyFs] at h
  | _ :: _ :: _, .str, _, _, _, h, _, _ => by simp [tyFs] at h
  | _ :: _ :: _, .adr, _, _, _, h, _, _ => by simp [tyFs] at h
  | _ :: _ :: _, .sl _, _, _, _, h, _, _ => by simp [tyFs] at h
  | _ :: _ :: _, .arr _ _, _, _, _, h, _, _ => by simp [tyFs] at h
theorem lget_snoc {α : Type} {l : List α} {y x : α} {i : Nat} (h : lget (l ++ [y]) i = some x) : (i < l.length ∧ lget l i = some x) ∨ (i = l.length ∧ x = y) := by
  unfold lget at *
  rcases Nat.lt_trichotomy i l.length with h1 | h1 | h1
  · rw [List.getElem?_append_left h1] at h; exact .inl ⟨h1, h⟩
  · subst h1
    simp only [List.getElem?_concat_length, Option.some.injEq] at h
    exact .inr ⟨rfl, h.symm⟩
  · rw [List.getElem?_eq_none (by simp; omega)] at h
    cases h
theorem rdU : ∀ (n : Nat) (u : U) (t : TypeId), tyU P n u t = true → ∀ (m : Nat) (cs : List Value) (x : DataW H × List MemPlace), DataW.trod enc P w base spare held m t cs = some x → RdU w u cs (Rows.uptoBulk x.1)
  | 0, u, t, h, _, _, _, _ => by simp [tyU] at h
  | n + 1, u, t, h, m, cs, x, hx => by
    unfold tyU at h
    split at h
    case h_1 k k' hu =>
      obtain rfl := eqK_eq h
      obtain ⟨i, rfl, rfl, hw⟩ := DataW.trod_int hu hx
      exact ⟨i, rfl, bulk_pos _, hw⟩
    case h_2 k hu =>
      obtain rfl := eqK_eq h
      obtain ⟨i, rfl, rfl, hw⟩ := DataW.trod_int hu hx
      have hk : 0 ≤ i ∧ i < 256 := by
        simp [Lit.wf, IntKind.min, IntKind.max, IntKind.bits, IntKind.signed] at hw
        omega
      refine ⟨(UInt8.ofNat i.toNat : UInt8), ?_, bulk_pos _, trivial⟩
      show some (Value.int .u8 i) = some (Value.int .u8 _)
      congr 2
      rw [UInt8.toNat_ofNat']
      omega
    case h_3 hu =>
      obtain ⟨b, rfl, rfl⟩ := DataW.trod_bool hu hx
      exact ⟨b, rfl, bulk_pos _, trivial⟩
    case h_4 hu =>
      obtain ⟨s, rfl, rfl, hs⟩ := DataW.trod_string hu hx
      refine ⟨(s.data.toList : List UInt8), rfl, ?_, trivial⟩
      simp only [bulkU, Rows.uptoBulk]
      omega
    case h_5 e v hu =>
      simp only [Bool.and_eq_true, Nat.beq_eq] at h
      obtain ⟨⟨h1, h2⟩, h3⟩ := h
      have h3 : 0 < sz v := by simpa [Nat.blt_eq] using h3
      rcases open_slice hu hx with ⟨rfl, rfl⟩ | ⟨a, len, cap, m', n', D, Pl, rfl, hbl, hl, hm, hmm, rfl, hel⟩
      · refine ⟨([] : List (El v)), ⟨none, 0, rfl, Nat.le_refl _, Nat.zero_le _, fun h => absurd h (Nat.lt_irrefl 0)⟩, by simp [bulkU, Rows.uptoBulk], fun x hx => by cases hx⟩
      · rw [h2] at hel
        have hlm : len ≤ m' := by rw [hmm]; split <;> omega
        have key : ∀ k, k ≤ len → ∃ l : List (El v), l.length = k ∧ (l.map (bulkU v)).sum ≤ Rows.uptoBulkAll ((List.range k).map D) ∧ (∀ x, x ∈ l → RngU v x) ∧
            (∀ i x, lget l i = some x → DenU (fun b => b < w.heap.size) w v x (fun j => if j < sz v then w.cell? ((a.add (i * sz v)).add j) else none)) := by
          intro k
          induction k with
          | zero => exact fun _ => ⟨[], rfl, by simp, (fun x h => by cases h), fun i x h => by simp [lget] at h⟩
          | succ k ihk =>
            intro hk
            obtain ⟨l, l1, l2, l3, l4⟩ := ihk (by omega)
            obtain ⟨cs', hc, ht'⟩ := hel k (by omega)
            obtain ⟨y, y1, y2, y3⟩ := rdU n v e h1 _ _ _ ht'
            obtain ⟨-, hcl, hcc⟩ := World.cells?_some hc
            refine ⟨l ++ [y], by simp [l1], ?_, ?_, ?_⟩
            · rw [List.range_succ, List.map_append, List.map_append, List.sum_append, bulkAll_append]
              have y2 : bulkU v y ≤ Rows.uptoBulk (D k) := y2
              simp only [Rows.uptoBulkAll, List.map_cons, List.map_nil, List.sum_cons, List.sum_nil]
              omega
            · intro x hx
              rcases List.mem_append.1 hx with hx | hx
              · exact l3 x hx
              · simp at hx; subst hx; exact y3
            · intro i x hi
              rcases lget_snoc hi with ⟨_, hi⟩ | ⟨rfl, rfl⟩
              · exact l4 i x hi
              · rw [l1]
                refine denU_cells y1 fun j v' hv => ?_
                have hj := (List.getElem?_eq_some_iff.1 hv).1
                rw [if_pos (by omega), hcc j (by omega)]
                exact hv
        obtain ⟨l, l1, l2, l3, l4⟩ := key len (Nat.le_refl _)
        refine ⟨l, ⟨some a, cap, by rw [show List.length (α := El v) l = len from l1]; rfl, by rw [show List.length (α := El v) l = len from l1]; exact hl, hm, fun h0 => ?_⟩, ?_, l3⟩
        · have h0 : 0 < len := by rw [← l1]; exact h0
          obtain ⟨cs', hc, _⟩ := hel 0 (by omega)
          obtain ⟨-, hcl, hcc⟩ := World.cells?_some hc
          have hc0 := hcc 0 (by omega)
          rw [List.getElem?_eq_getElem (by omega)] at hc0
          obtain ⟨b, o, spot⟩ := a
          have hspot : spot = none := by simpa [Addr.add] using World.cell?_spot hc0
          subst hspot
          have hbl := World.block_lt_of_cell? w _ hc0
          refine ⟨b, o, rfl, by simpa [Addr.add] using hbl, fun i x hi => denU_cells (l4 i x hi) fun j v' hv => ?_⟩
          split at hv
          · rwa [add_plain, add_plain, Nat.add_assoc] at hv
          · cases hv
        · simp only [bulkU, Rows.uptoBulk]
          exact (show 1 + (l.map (bulkU v)).sum ≤ _ by omega)
    case h_6 k e k' v hu =>
      simp only [Bool.and_eq_true, Nat.beq_eq] at h
      obtain ⟨⟨h0, h1⟩, h2⟩ := h
      subst h0
      obtain ⟨xs, m', rfl, rfl, hl, hxl, hf⟩ := DataW.trod_array hu hx
      rw [h2] at hf
      have key : ∀ q, q ≤ k → ∃ l : List (El v), l.length = q ∧ (l.map (bulkU v)).sum ≤ Rows.uptoBulkAll ((xs.take q).map (·.1)) ∧ (∀ x, x ∈ l → RngU v x) ∧
          (∀ i x, lget l i = some x → DenU (fun b => b < w.heap.size) w v x (fun j => cs[i * sz v + j]?)) := by
        intro q
        induction q with
        | zero => exact fun _ => ⟨[], rfl, by simp, (fun x h => by cases h), fun i x h => by simp [lget] at h⟩
        | succ q ihq =>
          intro hq
          obtain ⟨l, l1, l2, l3, l4⟩ := ihq (by omega)
          have hfq := hf q (by omega)
          rw [List.getElem?_eq_getElem (by omega)] at hfq
          obtain ⟨y, y1, y2, y3⟩ := rdU n v e h1 _ _ _ hfq
          refine ⟨l ++ [y], by simp [l1], ?_, ?_, ?_⟩
          · rw [List.take_add_one, List.getElem?_eq_getElem (by omega), List.map_append, List.map_append, List.sum_append, bulkAll_append]
            simp only [Rows.uptoBulkAll, List.map_cons, List.map_nil, List.sum_cons, List.sum_nil, Option.toList_some]
            omega
          · intro x hx
            rcases List.mem_append.1 hx with hx | hx
            · exact l3 x hx
            · simp at hx; subst hx; exact y3
          · intro i x hi
            rcases lget_snoc hi with ⟨_, hi⟩ | ⟨rfl, rfl⟩
            · exact l4 i x hi
            · rw [l1]
              exact denU_cells y1 fun j v' hv => take_drop_get hv
      obtain ⟨l, l1, l2, l3, l4⟩ := key k (Nat.le_refl _)
      refine ⟨l, ⟨l1, l4⟩, ?_, l3⟩
      rw [List.take_of_length_le (by omega)] at l2
      simp only [bulkU, Rows.uptoBulk]
      exact (show (l.map (bulkU v)).sum ≤ _ by omega)
    case h_7 u' fs hu =>
      obtain ⟨xs, m', rfl, rfl, hl, hxl, hf⟩ := DataW.trod_struct hu hx
      obtain ⟨a, q1, q2, q3⟩ := rdFs (fun u t ht cs x h => rdU n u t ht _ cs x h) fs.toList _ 0 xs cs h (by simpa using hxl) (fun i f hi => hf i f (by simpa using hi))
      refine ⟨a, denU_cells q1 fun j v hv => by rw [Nat.zero_add] at hv; exact hv, ?_, q3⟩
      simp only [Rows.uptoBulk]
      omega
    case h_8 => cases h
end
end Go.Proofs.YtolaecebfkdbcaaGreat
