/-
  Soundness of the conditions: new blocks, literals.
-/
import Derived.Test.YthghcdddambaeaaSndP
set_option linter.unusedVariables false
set_option linter.unusedSimpArgs false
namespace Go.Proofs.Ythghcdddambaeaa
open Go.RowKit

section
variable {P : Program} {tt : Tr} {N : Nat} {ids : List Nat} {o : Oper} {K : KL} {B : BL} {k : SV → Eff → Prop}
theorem zeroS_den {ρ : Nat → Pl} {I : Nat → Prop} {w : World} {v : Value} {s : S1} (h : zeroS v s = true) : DenS ρ I w s v ∧ v.oneCell' = true := by
  unfold zeroS at h
  split at h
  · rename_i k n k' n'
    simp only [Bool.and_eq_true, decide_eq_true_eq] at h
    have := eqK_eq h.1
    subst this
    rw [h.2]
    exact ⟨rfl, rfl⟩
  · rename_i b b'
    rw [show b = b' by simpa using h]
    exact ⟨rfl, rfl⟩
  · rename_i s l
    have h : s.data.toList = l := by simpa using h
    subst h
    exact ⟨by simp [DenS, Den], rfl⟩
  · exact ⟨rfl, rfl⟩
  · exact ⟨rfl, rfl⟩
  · exact ⟨rfl, rfl⟩
  · cases h
theorem zeroL_den {ρ : Nat → Pl} {I : Nat → Prop} {w : World} : ∀ (vs : List Value) (l : List S1), zeroL vs l = true → DenL ρ I w l vs ∧ ∀ u ∈ vs, u.oneCell' = true
  | [], [], _ => ⟨rfl, by simp⟩
  | v :: vs, s :: l, h => by
    simp only [zeroL, Bool.and_eq_true] at h
    obtain ⟨h1, h2⟩ := zeroS_den (ρ := ρ) (I := I) (w := w) h.1
    obtain ⟨h3, h4⟩ := zeroL_den (ρ := ρ) (I := I) (w := w) vs l h.2
    exact ⟨⟨v, vs, rfl, h1, h3⟩, fun u hu => (List.mem_cons.1 hu).elim (fun e => e ▸ h2) (h4 u)⟩
  | [], _ :: _, h => by simp [zeroL] at h
  | _ :: _, [], h => by simp [zeroL] at h
theorem has_ptr {c d p : Nat} (h : SV.has d (.c (.one (.ptr c p))) = true) : d = c := (Nat.eq_of_beq_eq_true h).symm
theorem has_own {c d : Nat} (h : SV.has d (.c (.one (.own c))) = true) : d = c := (Nat.eq_of_beq_eq_true h).symm
theorem snd_alloc (hP : TblOK P tt) {T : TypeId} (ho : o.op = .alloc T) (h : match tt.find T, o.dst with
    | some ti, some d => freshB ids K B d = true ∧ k (.c (.one (.ptr d 0))) ⟨[], [d], [(d, some (.cells ti.zero))]⟩
    | _, _ => False) : Snd P N ids o K B k := by
  split at h
  · rename_i ti d hti hd
    obtain ⟨i, ds, hok⟩ := hP.at_ hti
    obtain ⟨z, hz, hzl⟩ := hok.zero
    refine Snd.nw h.2 h.1 <| OpOK.make (fun d h => has_ptr h) fun K' B' h1 h2 C ρ F a w hM hS hn => ?_
    refine ⟨_, _, ⟨w.heap.size, none, 0, 0⟩, fun b => b = w.heap.size, (by
      simp [execOp, ho, Instr.alloc, zeroValue, typeInfo, hok.info, hz, newVar, newRow]
      rfl), alloc_below w _, fun b hb => by subst hb; exact ⟨Nat.le_refl _, by simp⟩, fun I he hb => ⟨⟨fun b => Iff.rfl, z.cells.toList, T, heap_alloc_at _ rfl, (zeroL_den _ _ hzl).1⟩, ?_⟩⟩
    simp only [DenV, DenC, DenS, upd_same]
  · exact h.elim
theorem snd_box (hP : TblOK P tt) {T : TypeId} {x : Operand} (ho : o.op = .box T x) (h : match tt.find T, o.dst, cellsV (opv K x) with
    | some ti, some d, some l => match Nat.beq l.length ti.size with
      | true => freshB ids K B d = true ∧ k (.c (.one (.ptr d 0))) ⟨[], [d], [(d, some (.cells l))]⟩
      | false => False
    | _, _, _ => False) : Snd P N ids o K B k := by
  have m1 : x ∈ o.op.operands := by rw [ho]; simp [Op.operands]
  split at h
  · rename_i ti d l hti hd hl
    split at h
    · refine Snd.nw h.2 h.1 <| OpOK.make (fun d h => has_ptr h) fun K' B' h1 h2 C ρ F a w hM hS hn => ?_
      have hv := hS.get x
      rw [h1 x m1] at hv
      obtain ⟨vs, e1, e2, e3⟩ := cells_of hl hv
      refine ⟨_, _, ⟨w.heap.size, none, 0, 0⟩, fun b => b = w.heap.size, (by
        simp [execOp, ho, Instr.box, newVar, newRow, e1]
        rfl), alloc_below w _, fun b hb => by subst hb; exact ⟨Nat.le_refl _, by simp⟩, fun I he hb => ⟨⟨fun b => Iff.rfl, vs, T, heap_alloc_at _ rfl, ?_⟩, ?_⟩⟩
      · refine DenL.mono he l vs (fun c hc => ?_) e2
        refine upd_other _ _ fun e => ?_
        subst e
        have hh : (opv K x).has c = true := by
          unfold cellsV at hl
          split at hl
          · rename_i hx
            split at hl
            · injection hl with hl; subst hl; rw [hx]; simpa [SV.has, SC.has, hasL] using hc
            · cases hl
          · rename_i hx
            split at hl
            · injection hl with hl; subst hl; rw [hx]; simpa [SV.has, SC.has] using hc
            · cases hl
          · cases hl
        rw [← h1 x m1] at hh
        cases x with
        | tmp t => have := hn t; simp only [opv] at hh; rw [this] at hh; cases hh
        | const v =>
          have hcn : ∀ u : Value, (constS u).has c = false := fun u => by unfold constS; split <;> rfl
          have hcl : ∀ us : List Value, hasL c (us.map constS) = false := fun us => by induction us with
            | nil => rfl
            | cons u us ih => simp [hasL, hcn, ih]
          simp only [opv] at hh
          unfold constV at hh
          split at hh <;> simp [SV.has, SC.has, hcn, hcl] at hh
        | func f => simp [opv, SV.has, SC.has, S1.has] at hh
        | global g => simp [opv, SV.has, SC.has, S1.has] at hh
      · simp only [DenV, DenC, DenS, upd_same]
    · exact h.elim
  · exact h.elim
/-! ### literals -/
theorem foldl_parts : ∀ (us : List Value) (off j : Nat) (p m s : List Value), p.length = off + j → m.length = us.length →
    (us.zipIdx j).foldl (fun cs p => cs.setIfInBounds (off + p.2) p.1) (p ++ m ++ s).toArray = (p ++ us ++ s).toArray
  | [], off, j, p, m, s, hp, hm => by
    rw [show m = [] from List.eq_nil_of_length_eq_zero (by simpa using hm)]
    simp
  | u :: us, off, j, p, [], s, hp, hm => by simp at hm
  | u :: us, off, j, p, x :: m, s, hp, hm => by
    simp only [List.zipIdx_cons, List.foldl_cons]
    have e : (p ++ x :: m ++ s).toArray.setIfInBounds (off + j) u = ((p ++ [u]) ++ m ++ s).toArray := by
      rw [List.setIfInBounds_toArray, ← hp]
      simp
    rw [e, foldl_parts us off (j + 1) (p ++ [u]) m s (by simp; omega) (by simpa using hm)]
    simp
theorem foldl_set (us vs : List Value) (off : Nat) (h : off + us.length ≤ vs.length) :
    (us.zipIdx).foldl (fun cs p => cs.setIfInBounds (off + p.2) p.1) vs.toArray = (vs.take off ++ us ++ vs.drop (off + us.length)).toArray := by
  have e : vs = vs.take off ++ (vs.drop off).take us.length ++ vs.drop (off + us.length) := by
    rw [List.append_assoc, ← List.drop_drop, List.take_append_drop, List.take_append_drop]
  have := foldl_parts us off 0 (vs.take off) ((vs.drop off).take us.length) (vs.drop (off + us.length)) (by simp; omega) (by simp; omega)
  rw [← e] at this
  exact this
theorem fill_sound {K' : KL} {ρ : Nat → Pl} {I : Nat → Prop} {a : Act} {w : World} (hS : Slots K' ρ I a w) {offs place : Nat → Option (Nat × Nat)} (hpl : ∀ i d n, offs i = some (d, n) → place i = some (d, n)) :
    ∀ (ps : List (Nat × Operand)) (l l' : List S1) (vs : List Value), (∀ p ∈ ps, opv K' p.2 = opv K p.2) → fillP K offs ps l = some l' → DenL ρ I w l vs → (∀ u ∈ vs, u.oneCell' = true) →
      ∃ vs', Instr.fill place (List.toArray vs) (ps.map fun p => (p.1, a.eval p.2)) = some (List.toArray vs') ∧ DenL ρ I w l' vs' ∧ ∀ u ∈ vs', u.oneCell' = true
  | [], l, l', vs, _, h, hv, h1 => by
    simp only [fillP, Option.some.injEq] at h
    subst h
    exact ⟨vs, rfl, hv, h1⟩
  | (i, x) :: ps, l, l', vs, hK, h, hv, h1 => by
    unfold fillP at h
    split at h
    · rename_i d n cs hd hcs
      split at h
      · rename_i e1 e2
        have e1 := Nat.eq_of_beq_eq_true e1
        have e2 := Nat.le_of_ble_eq_true e2
        have hx := hS.get x
        rw [hK (i, x) (by simp)] at hx
        obtain ⟨us, g1, g2, g3⟩ := cells_of hcs hx
        have q1 := DenL.length _ _ g2
        have q2 := DenL.length _ _ hv
        obtain ⟨vs', k1, k2, k3⟩ := fill_sound hS hpl ps _ l' (vs.take d ++ us ++ vs.drop (d + us.length)) (fun p hp => hK p (by simp [hp])) h (DenL.splice hv g2) (fun u hu => by
          simp only [List.mem_append] at hu
          rcases hu with (hu | hu) | hu
          · exact h1 u (List.mem_of_mem_take hu)
          · exact g3 u hu
          · exact h1 u (List.mem_of_mem_drop hu))
        refine ⟨vs', ?_, k2, k3⟩
        rw [← k1]
        simp only [List.map_cons, Instr.fill, hpl i d n hd, g1]
        have hf := foldl_set us vs d (by omega)
        rw [if_neg (by simp; omega)]
        congr 1
        rw [← hf, ← Array.foldl_toList, Array.toList_zipIdx]
      · cases h
    · cases h
theorem offs_map {fs : List Field} {l : List (Nat × Nat)} (h : offsL P fs l = true) : fs.mapM (fun f => (P.info? f.type).map fun i => (f.offset, i.size)) = some l := by
  induction fs generalizing l with
  | nil => cases l with
    | nil => rfl
    | cons _ _ => simp [offsL] at h
  | cons f fs ih => cases l with
    | nil => simp [offsL] at h
    | cons p l =>
      obtain ⟨d, n⟩ := p
      simp only [offsL, Bool.and_eq_true] at h
      obtain ⟨⟨⟨h1, h2⟩, _⟩, h4⟩ := h
      split at h2
      · rename_i i hi
        have h2 := Nat.eq_of_beq_eq_true h2
        have h1 := Nat.eq_of_beq_eq_true h1
        simp [List.mapM_cons, hi, ih h4, h1, h2]
      · cases h2
theorem snd_build (hP : TblOK P tt) {T : TypeId} {ps : Array (Nat × Operand)} (ho : o.op = .build T ps) (h : match tt.find T with
    | some ti => match ti.kd, fillP K (fun f => ti.offs[f]?) ps.toList ti.zero with
      | .st, some l => forceL l fun l => k (.c (.agg l)) e0
      | _, _ => False
    | none => False) : Snd P N ids o K B k := by
  split at h
  · rename_i ti hti
    obtain ⟨i, d, hok⟩ := hP.at_ hti
    obtain ⟨z, hz, hzl⟩ := hok.zero
    split at h
    · rename_i l hk hl
      rw [forceL_eq] at h
      refine Snd.of h <| OpOK.val fun K' B' h1 h2 C ρ F a w hM hS => ?_
      obtain ⟨z1, z2⟩ := zeroL_den (ρ := ρ) (I := Imm C B' F w) (w := w) _ _ hzl
      obtain ⟨vs', f1, f2, f3⟩ := fill_sound (K := K) hS (offs := fun f => ti.offs[f]?) (place := fun f => ti.offs[f]?) (fun i d n hi => hi) ps.toList _ _ _ (fun p hp => h1 p.2 (by rw [ho]; simp only [Op.operands]; simpa using ⟨p.1, by simpa using hp⟩)) hl z1 z2
      refine ⟨.agg (List.toArray vs'), ?_, vs', rfl, f2⟩
      have hbuilt : P.built T (ps.toList.map fun p => (p.1, a.eval p.2)) = some (List.toArray vs') := by
        unfold Program.built
        rw [hok.info, hok.und]
        obtain ⟨fs, _, hdd⟩ := hok.st hk
        have := offs_map (hok.offs fs hdd)
        subst hdd
        simp only [hz, this]
        simpa using f1
      unfold execOp
      simp only [ho, Sem.run_bind, run_build w T _ _ (show P.built T ((ps.map fun p => (p.1, a.eval p.2)).toList) = _ by simpa using hbuilt), Result.andThen_ok]
      rfl
    · exact h.elim
  · exact h.elim
end
end Go.Proofs.Ythghcdddambaeaa
