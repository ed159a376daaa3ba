/-
  Soundness of the conditions: slices.
-/
import Derived.Test.YthghcdddambaeaaSndQ
set_option linter.unusedVariables false
set_option linter.unusedSimpArgs false
namespace Go.Proofs.Ythghcdddambaeaa
open Go.RowKit

section
variable {P : Program} {tt : Tr} {N : Nat} {ids : List Nat} {o : Oper} {K : KL} {B : BL} {k : SV → Eff → Prop}
theorem elem_ok (hP : TblOK P tt) {T e : Nat} {te : TI} (h : elemOf tt T = some (e, te)) : P.underlying T = some (.slice e) ∧ ∃ i d, TIok P e te i d := by
  unfold elemOf at h
  split at h
  · rename_i ti hti
    split at h
    · rename_i e' hk
      split at h
      · rename_i te' hte
        injection h with h
        injection h with h1 h2
        subst h1 h2
        obtain ⟨_, _, hok⟩ := hP.at_ hti
        exact ⟨hok.sl hk, hP.at_ hte⟩
      · cases h
    · cases h
  · cases h
theorem isStr_ok (hP : TblOK P tt) {T : Nat} (h : isStr tt T = true) : P.underlying T = some .string := by
  unfold isStr at h
  split at h
  · rename_i ti hti
    split at h
    · rename_i hk
      obtain ⟨_, _, hok⟩ := hP.at_ hti
      exact hok.str hk
    · cases h
  · cases h
theorem isU8_ok (hP : TblOK P tt) {T : Nat} (h : isU8 tt T = true) : P.underlying T = some (.int .u8) ∧ ∃ ti i d, TIok P T ti i d ∧ ti.zero = [.d (.int .u8 0)] ∧ ti.size = 1 ∧ ti.bytes = 1 := by
  unfold isU8 at h
  split at h
  · rename_i ti hti
    split at h
    · rename_i hk hz hs hb
      obtain ⟨i, d, hok⟩ := hP.at_ hti
      exact ⟨hok.int hk, ti, i, d, hok, hz, hs, hb⟩
    · cases h
  · cases h
/-! ### slice literals -/
def repV (n : Nat) (l : List Value) : List Value := match n with
  | 0 => []
  | n + 1 => l ++ repV n l
theorem repV_length (n : Nat) (l : List Value) : (repV n l).length = n * l.length := by
  induction n with
  | zero => simp [repV]
  | succ n ih => simp [repV, ih, Nat.succ_mul, Nat.add_comm]
theorem repV_get (n : Nat) (l : List Value) : ∀ j, j < n * l.length → (repV n l)[j]? = l[j % l.length]? := by
  induction n with
  | zero => intro j hj; simp at hj
  | succ n ih =>
    intro j hj
    unfold repV
    by_cases h : j < l.length
    · rw [List.getElem?_append_left h, Nat.mod_eq_of_lt h]
    · rw [List.getElem?_append_right (by omega), ih _ (by rw [Nat.succ_mul] at hj; omega), Nat.mod_eq_sub_mod (a := j) (by omega)]
theorem rep_den {ρ : Nat → Pl} {I : Nat → Prop} {w : World} (n : Nat) {l : List S1} {vs : List Value} (h : DenL ρ I w l vs) : DenL ρ I w (repL n l) (repV n vs) := by
  induction n with
  | zero => rfl
  | succ n ih => exact DenL.app _ _ _ _ h ih
theorem repV_mem {n : Nat} {l : List Value} {v : Value} (h : v ∈ repV n l) : v ∈ l := by
  induction n with
  | zero => simp [repV] at h
  | succ n ih => exact (List.mem_append.1 h).elim id ih
theorem made_rep (z : Array Value) (n : Nat) (hz : 0 < z.size) : (Array.range (n * z.size)).map (z[· % z.size]!) = (repV n z.toList).toArray := by
  apply Array.ext'
  simp only [Array.toList_map, List.toList_toArray]
  apply List.ext_getElem?
  intro j
  by_cases hj : j < n * z.size
  · rw [repV_get n z.toList j (by simpa using hj)]
    simp only [Array.length_toList]
    have hm : j % z.size < z.size := Nat.mod_lt _ hz
    simp [hj, hm]
  · rw [List.getElem?_eq_none (by simp; omega), List.getElem?_eq_none (by rw [repV_length]; simp; omega)]
theorem alloc_cell {w : World} {l : List Value} {e : TypeId} {j : Nat} {v : Value} (h : l[j]? = some v) : (w.alloc (.cells (List.toArray l) e)).cell? ⟨w.heap.size, j, none⟩ = some v :=
  cell_of (T := e) (heap_alloc_new w _) h
theorem data_new {I : Nat → Prop} {w : World} {u : U} {xs : List (El u)} {cs : List Value} {e : TypeId} {cap : Nat} (hr : RecsU I (w.alloc (.cells (List.toArray cs) e)) u xs cs) (hI : I w.heap.size) (hc : xs.length ≤ cap) (hm : cap ≤ maxLen) :
    DenU I (w.alloc (.cells (List.toArray cs) e)) (.sl u) xs (fun _ => some (.slice (some ⟨w.heap.size, 0, none⟩) xs.length cap)) :=
  ⟨_, cap, rfl, hc, hm, fun _ => ⟨_, 0, rfl, hI, fun i x hx => DenU.mono (Ext.refl _ _) u x _ _ (fun j v hj => by
    simp only [Nat.zero_add]
    exact alloc_cell hj) (hr i x hx)⟩⟩
theorem ownsRow_new (w : World) (e s n : Nat) (cs : List Value) (hl : cs.length = n * s) (hm : n ≤ maxLen) : (w.alloc (.cells (List.toArray cs) e)).ownsRow 0 e s (.slice (some ⟨w.heap.size, 0, none⟩) n n) n cs :=
  ⟨hl, .inr ⟨_, n, _, rfl, Nat.zero_le _, heap_alloc_new w _, Nat.le_refl _, hm, by simpa using hl, by simp [← hl]⟩⟩
theorem snd_slice0 (hP : TblOK P tt) {T : TypeId} {ps : Array (Nat × Operand)} (ho : o.op = .buildSlice T 0 ps) (h : match elemOf tt T, o.dst with
    | some (e, te), some d => match te.u with
      | some u => freshB ids K B d = true ∧ k (.c (.one (.own d))) ⟨[], [d], [(d, some (.row e u []))]⟩
      | none => False
    | _, _ => False) (hps : ps.toList = []) : Snd P N ids o K B k := by
  split at h
  · rename_i e te d he hd
    obtain ⟨hu, inf, ds, hok⟩ := elem_ok hP he
    split at h
    · rename_i u hte
      refine Snd.nw h.2 h.1 <| OpOK.make (fun d h => has_own h) fun K' B' h1 h2 C ρ F a w hM hS hn => ?_
      have hps' : ps = #[] := Array.toList_eq_nil_iff.1 hps
      refine ⟨.slice (some ⟨w.heap.size, 0, none⟩) 0 0, w.alloc (.cells #[] e), ⟨w.heap.size, some ⟨w.heap.size, 0, none⟩, 0, 0⟩, fun b => b = w.heap.size, ?_, alloc_below w _, fun b hb => by subst hb; exact ⟨Nat.le_refl _, by simp⟩, fun I he hb => ⟨⟨?_, ?_, [], ?_, RecsU.nil u⟩, ?_⟩⟩
      · subst hps'
        simp [execOp, ho, Instr.buildSlice, run_underlying hu, sizeOf, typeInfo, hok.info, Instr.fill, newRow]
        rw [show (Array.range 0) = #[] from rfl]
        simp
      · intro b
        simp [Pl.hdr, Value.ownBlock, eq_comm]
      · intro b hb
        simp [Pl.hdr, Value.ownBlock] at hb
        exact hb.symm
      · exact ownsRow_new w e (sz u) 0 [] (by simp) (by decide)
      · simp only [DenV, DenC, DenS, upd_same, Pl.hdr]
    · exact h.elim
  · exact h.elim
theorem snd_sliceN (hP : TblOK P tt) {T n : Nat} {ps : Array (Nat × Operand)} (ho : o.op = .buildSlice T n ps) (hn0 : n ≠ 0) (h : match elemOf tt T with
    | some (_, te) => match te.u with
      | some u => match Nat.ble (n * te.size) 1000, fillP K (fun i => some (i * te.size, te.size)) ps.toList (repL n te.zero) with
        | true, some l => match decs u n l with
          | some (xs, none) => k (.c (.one (.d (.lst u xs)))) e0
          | some (xs, some p) => p ∧ k (.c (.one (.d (.lst u xs)))) e0
          | none => False
        | _, _ => False
      | none => False
    | none => False) : Snd P N ids o K B k := by
  split at h
  · rename_i e te he
    obtain ⟨hu, inf, ds, hok⟩ := elem_ok hP he
    obtain ⟨z, hz, hzl⟩ := hok.zero
    split at h
    · rename_i u hte
      split at h
      · rename_i l hle hl
        have hle := Nat.le_of_ble_eq_true hle
        have main : ∀ xs p, decs u n l = some (xs, p) → PropO p → OpOK P N ids o K B (.c (.one (.d (.lst u xs)))) e0 := fun xs p hd hp => OpOK.new fun K' B' h1 h2 C ρ F a w hM hS => by
          obtain ⟨z1, z2⟩ := zeroL_den (ρ := ρ) (I := Imm C B' F w) (w := w) _ _ hzl
          have hzs : z.cells.size = inf.size := by
            have h1 := DenL.length _ _ z1
            simp at h1
            rw [h1, hok.zlen, hok.size]
          have hpos : 0 < inf.size := by have := hok.pos; have := hok.size; omega
          have hsu : sz u = inf.size := (hok.u u hte).trans hok.size.symm
          obtain ⟨vs, f1, f2, f3⟩ := fill_sound (K := K) hS (offs := fun i => some (i * te.size, te.size)) (place := fun i => some (i * inf.size, inf.size)) (fun i d n hi => by rw [hok.size]; exact hi) ps.toList _ _ (repV n z.cells.toList)
            (fun p hp => h1 p.2 (by rw [ho]; simp only [Op.operands]; simpa using ⟨p.1, by simpa using hp⟩)) hl (rep_den n z1) (fun v hv => z2 v (repV_mem hv))
          obtain ⟨d1, d2, d3, d4⟩ := decs_sound u n l xs p hd hp vs f2
          have hrun := run_buildSlice (P := P) w T e n (ps.map fun p => (p.1, a.eval p.2)) (List.toArray vs) inf z hu hok.info hz (by rw [hok.size]; omega)
            (by rw [Nat.mul_eq_zero]; omega) (by rw [← hzs, made_rep z.cells n (by omega), hzs]; simpa using f1)
          refine ⟨.slice (some ⟨w.heap.size, 0, none⟩) n n, w.alloc (.cells (List.toArray vs) e), ?_, alloc_below w (.cells (List.toArray vs) e), fun I he hI => ?_⟩
          · unfold execOp
            simp only [ho, Sem.run_bind, hrun, Result.andThen_ok]
            rfl
          · have := data_new (e := e) (cap := n) (RecsU.mono (he) d3) (hI _ (Nat.le_refl _) (by simp)) (by omega) (by simp only [maxLen]; have := Nat.le_mul_of_pos_right n (show 0 < te.size by have := hok.pos; omega); omega)
            rw [d1] at this
            exact this
        split at h
        · rename_i xs hd; exact Snd.of h <| main xs none hd trivial
        · rename_i xs p hd; exact Snd.of h.2 <| main xs (some p) hd h.1
        · exact h.elim
      · exact h.elim
    · exact h.elim
  · exact h.elim
end
end Go.Proofs.Ythghcdddambaeaa
