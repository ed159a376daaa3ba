/-
  Contracts: with more blocks; with a row that becomes data.
-/
import Derived.Test.YtolaecebfkdbcaaGreatCd
set_option linter.unusedVariables false
set_option linter.unusedSimpArgs false
namespace Go.Proofs.YtolaecebfkdbcaaGreat
open Go.RowKit
/-- None of these blocks is one of l, or names one. -/
def farB (l : List Nat) : BL → Bool
  | [] => true
  | (c, ch) :: B => !l.contains c && (l.all fun d => !ch.has d) && farB l B
theorem farB_get {l : List Nat} : ∀ {B : BL}, farB l B = true → ∀ {c ch}, lookB B c = some ch → c ∉ l ∧ ∀ d, d ∈ l → ch.has d = false
  | [], _, c, ch, hc => by cases hc
  | (e, x) :: B, h, c, ch, hc => by
    simp only [farB, Bool.and_eq_true, Bool.not_eq_true'] at h
    obtain ⟨⟨h1, h2⟩, h3⟩ := h
    rw [lookB_cons] at hc
    split at hc
    · rename_i e
      injection hc with hc
      subst e hc
      refine ⟨fun hm => (by rw [List.contains_iff_mem.2 hm] at h1; cases h1), fun d hd => ?_⟩
      have := List.all_eq_true.1 h2 d hd
      simpa using this
    · exact farB_get h3 hc
theorem Fn.more {P : Program} {f : FuncId} {args : List SV} {Bi : BL} {nw : List Nat} {res : SV} {Bo : BL} (Be : BL) (h : Fn P f args Bi nw res Bo) (h1 : ((keysB Be).all fun d => !(keysB Bi).contains d && !(keysB Bo).contains d) = true) (h2 : farB nw Be = true) :
    Fn P f args (Bi ++ Be) nw res (Bo ++ Be) := by
  have k1 : ∀ {c ch}, lookB Be c = some ch → lookB Bi c = none ∧ lookB Bo c = none := fun {c ch} hc => by
    have := List.all_eq_true.1 h1 c (keysB_mem.2 ⟨ch, hc⟩)
    simp only [Bool.and_eq_true, Bool.not_eq_true'] at this
    constructor
    · cases e : lookB Bi c with
      | none => rfl
      | some x => rw [List.contains_iff_mem.2 (keysB_mem.2 ⟨x, e⟩)] at this; cases this.1
    · cases e : lookB Bo c with
      | none => rfl
      | some x => rw [List.contains_iff_mem.2 (keysB_mem.2 ⟨x, e⟩)] at this; cases this.2
  have inI : ∀ {c ch}, lookB Bi c = some ch → lookB (Bi ++ Be) c = some ch := fun {c ch} hc => by rw [lookB_app, hc]
  have inE : ∀ {c ch}, lookB Be c = some ch → lookB (Bi ++ Be) c = some ch := fun {c ch} hc => by rw [lookB_app, (k1 hc).1]; exact hc
  have un : ∀ {c ch}, lookB (Bo ++ Be) c = some ch → lookB Bo c = some ch ∨ lookB Be c = some ch := fun {c ch} hc => by
    rw [lookB_app] at hc
    cases e : lookB Bo c with
    | none => rw [e] at hc; exact .inr hc
    | some x => rw [e] at hc; exact .inl hc
  refine ⟨h.1, fun ρ F I w vals a1 a2 a3 a4 a5 a6 => ?_⟩
  refine (h.2 ρ F I w vals a1 (fun c ch hc => a2 c ch (inI hc)) (fun c ch hc => a3 c ch (inI hc)) (fun c c' ch ch' b hc hc' => a4 c c' ch ch' b (inI hc) (inI hc')) a5 a6).mono ?_
  rintro e w' ⟨x, ρ', F', r1, r2, r3, I', r4, r5, r6, r7, r8, r9⟩
  let F2 : Nat → Nat → Prop := fun c => if (lookB Be c).isSome = true then F c else F' c
  have f1 : ∀ {c ch}, lookB Be c = some ch → F2 c = F c := fun {c ch} hc => if_pos (by rw [hc]; rfl)
  have f2 : ∀ {c ch}, lookB Bo c = some ch → F2 c = F' c := fun {c ch} hc => if_neg (fun hs => by
    cases e : lookB Be c with
    | none => rw [e] at hs; cases hs
    | some x => rw [(k1 e).2] at hc; cases hc)
  have notBi : ∀ {c ch} {b : Nat}, lookB Be c = some ch → F c b → ¬ ∃ d ch', lookB Bi d = some ch' ∧ F d b := fun {c ch b} hc hb => by
    rintro ⟨d, ch', hd, hb'⟩
    refine a4 c d ch ch' b (inE hc) (inI hd) (fun e => ?_) hb hb'
    subst e
    rw [(k1 hc).1] at hd
    cases hd
  refine ⟨x, ρ', F2, r1, r2.mono fun b _ ⟨c, ch, hc, hb⟩ => ⟨c, ch, inI hc, hb⟩, r3, I', r4, fun b hb => ⟨(r5 b hb).1, (r5 b hb).2.imp id (Or.imp (fun ⟨c, ch, hc, hb⟩ => ⟨c, ch, inI hc, hb⟩) id)⟩, fun c ch hc => ?_, fun c ch hc b hb => ?_, fun c c' ch ch' b hc hc' hne hb hb' => ?_, r9⟩
  · rcases un hc with hc | hc
    · rw [f2 hc]; exact r6 c ch hc
    · rw [f1 hc]
      obtain ⟨g1, g2⟩ := farB_get h2 hc
      rw [r3 c g1]
      exact Holds.stable r4 (fun b hb => r2.block b (a3 c ch (inE hc) b hb).1 (notBi hc hb)) r2.size ch (fun d hd => r3 d fun hm => by rw [g2 d hm] at hd; cases hd) (a2 c ch (inE hc))
  · rcases un hc with hc | hc
    · rw [f2 hc] at hb
      obtain ⟨g1, g2, g3⟩ := r7 c ch hc b hb
      exact ⟨g1, g2, g3.imp (fun ⟨d, ch', hd, hb⟩ => ⟨d, ch', inI hd, hb⟩) id⟩
    · rw [f1 hc] at hb
      obtain ⟨g1, g2⟩ := a3 c ch (inE hc) b hb
      refine ⟨Nat.lt_of_lt_of_le g1 r2.size, fun hI => ?_, .inl ⟨c, ch, inE hc, hb⟩⟩
      rcases (r5 b hI).2 with h | h | h
      · exact g2 h
      · exact notBi hc hb h
      · omega
  · rcases un hc with hc | hc <;> rcases un hc' with hc' | hc'
    · rw [f2 hc] at hb; rw [f2 hc'] at hb'; exact r8 c c' ch ch' b hc hc' hne hb hb'
    · rw [f2 hc] at hb; rw [f1 hc'] at hb'
      rcases (r7 c ch hc b hb).2.2 with h | h
      · exact notBi hc' hb' h
      · have := (a3 c' ch' (inE hc') b hb').1; omega
    · rw [f1 hc] at hb; rw [f2 hc'] at hb'
      rcases (r7 c' ch' hc' b hb').2.2 with h | h
      · exact notBi hc hb h
      · have := (a3 c ch (inE hc) b hb).1; omega
    · rw [f1 hc] at hb; rw [f1 hc'] at hb'; exact a4 c c' ch ch' b (inE hc) (inE hc') hne hb hb'
/-- A result that is a new row, as data. -/
theorem Fn.frz {P : Program} {f : FuncId} {args : List SV} {Bi : BL} {nw : List Nat} {d : Nat} {e : TypeId} {u : U} {xs : List (El u)} {Bo : BL} (h : Fn P f args Bi (d :: nw) (.c (.one (.own d))) (Bo ++ [(d, .row e u xs)])) (h1 : (keysB Bo).contains d = false) (h2 : farB [d] Bo = true) :
    Fn P f args Bi nw (.c (.one (.d (.lst u xs)))) Bo := by
  have k1 : lookB Bo d = none := by
    cases e : lookB Bo d with
    | none => rfl
    | some x => rw [List.contains_iff_mem.2 (keysB_mem.2 ⟨x, e⟩)] at h1; cases h1
  have ld : lookB (Bo ++ [(d, Ch.row e u xs)]) d = some (.row e u xs) := by rw [lookB_app, k1]; simp [lookB]
  have inB : ∀ {c ch}, lookB Bo c = some ch → lookB (Bo ++ [(d, Ch.row e u xs)]) c = some ch := fun {c ch} hc => by rw [lookB_app, hc]
  have hne : ∀ {c ch}, lookB Bo c = some ch → c ≠ d := fun {c ch} hc e => by rw [e, k1] at hc; cases hc
  refine ⟨h.1, fun ρ F I w vals a1 a2 a3 a4 a5 a6 => ?_⟩
  refine (h.2 ρ F I w vals a1 a2 a3 a4 a5 a6).mono ?_
  rintro ex w' ⟨x, ρ', F', r1, r2, r3, I', r4, r5, r6, r7, r8, r9⟩
  have hrow := r6 d _ ld
  have hI1 : ∀ b, I' b → (fun b => I' b ∨ F' d b) b := fun b hb => .inl hb
  have hE : Ext I' w' (fun b => I' b ∨ F' d b) w' := fun b hb => ⟨.inl hb, rfl⟩
  have hden : Den (fun b => I' b ∨ F' d b) w' (.lst u xs) (ρ' d).hdr := row_data hrow hI1 (fun b hb => .inr hb)
  refine ⟨x, upd ρ' d (ρ d), F', r1, r2, fun c hc => ?_, fun b => I' b ∨ F' d b, fun b hb => ⟨.inl (r4 b hb).1, (r4 b hb).2⟩, fun b hb => ?_, fun c ch hc => ?_, fun c ch hc b hb => ?_, fun c c' ch ch' b hc hc' => r8 c c' ch ch' b (inB hc) (inB hc'), ?_⟩
  · by_cases e : c = d
    · rw [e, upd_same]
    · rw [upd_other _ _ e]; exact r3 c (fun hm => by rcases List.mem_cons.1 hm with h | h; exact e h; exact hc h)
  · rcases hb with hb | hb
    · exact r5 b hb
    · obtain ⟨g1, g2, g3⟩ := r7 d _ ld b hb
      exact ⟨g1, .inr g3⟩
  · have hcd := hne hc
    obtain ⟨_, g2⟩ := farB_get h2 hc
    rw [upd_other _ _ hcd]
    exact Holds.stable hE (fun _ _ => rfl) (Nat.le_refl _) ch (fun j hj => upd_other _ _ fun e => by rw [e, g2 d (List.mem_singleton.2 rfl)] at hj; cases hj) (r6 c ch (inB hc))
  · obtain ⟨g1, g2, g3⟩ := r7 c ch (inB hc) b hb
    refine ⟨g1, fun hI => ?_, g3⟩
    rcases hI with hI | hI
    · exact g2 hI
    · exact r8 c d ch _ b (inB hc) ld (hne hc) hb hI
  · have hx : x = (ρ' d).hdr := r9
    rw [hx]
    exact hden
/-- A row of the caller's own, given away: data for whoever is called. -/
theorem Fn.own {P : Program} {f : FuncId} {args : List SV} {Bi : BL} {nw : List Nat} {d : Nat} {e : TypeId} {u : U} {xs : List (El u)} {res : SV} {Bo : BL} (h : Fn P f (args.map (SV.frz d (.lst u xs))) Bi nw res Bo) (h1 : (keysB Bi).contains d = false) :
    Fn P f args (Bi ++ [(d, .row e u xs)]) nw res Bo := by
  have k1 : lookB Bi d = none := by
    cases e : lookB Bi d with
    | none => rfl
    | some x => rw [List.contains_iff_mem.2 (keysB_mem.2 ⟨x, e⟩)] at h1; cases h1
  have ld : lookB (Bi ++ [(d, Ch.row e u xs)]) d = some (.row e u xs) := by rw [lookB_app, k1]; simp [lookB]
  have inB : ∀ {c ch}, lookB Bi c = some ch → lookB (Bi ++ [(d, Ch.row e u xs)]) c = some ch := fun {c ch} hc => by rw [lookB_app, hc]
  have hne : ∀ {c ch}, lookB Bi c = some ch → c ≠ d := fun {c ch} hc e => by rw [e, k1] at hc; cases hc
  refine ⟨h.1, fun ρ F I w vals a1 a2 a3 a4 a5 a6 => ?_⟩
  have hrow := a2 d _ ld
  have hE : Ext I w (fun b => I b ∨ F d b) w := fun b hb => ⟨.inl hb, rfl⟩
  have hden : Den (fun b => I b ∨ F d b) w (.lst u xs) (ρ d).hdr := row_data hrow (fun b hb => .inl hb) (fun b hb => .inr hb)
  refine (h.2 ρ F (fun b => I b ∨ F d b) w vals (fun b hb => hb.elim (a1 b) fun hb => (a3 d _ ld b hb).1) (fun c ch hc => Holds.stable hE (fun _ _ => rfl) (Nat.le_refl _) ch (fun _ _ => rfl) (a2 c ch (inB hc)))
    (fun c ch hc b hb => ⟨(a3 c ch (inB hc) b hb).1, fun hI => hI.elim (a3 c ch (inB hc) b hb).2 fun hd => a4 c d ch _ b (inB hc) ld (hne hc) hb hd⟩) (fun c c' ch ch' b hc hc' => a4 c c' ch ch' b (inB hc) (inB hc')) (by rw [List.length_map]; exact a5) (fun i v x hv hx => ?_)).mono ?_
  · rw [List.getElem?_map] at hv
    obtain ⟨s, hs, rfl⟩ := Option.map_eq_some_iff.1 hv
    exact DenV.frz hE hden s x (a6 i s x hs hx)
  · rintro ex w' ⟨x, ρ', F', r1, r2, r3, I', r4, r5, r6, r7, r8, r9⟩
    refine ⟨x, ρ', F', r1, r2.mono fun b _ ⟨c, ch, hc, hb⟩ => ⟨c, ch, inB hc, hb⟩, r3, I', fun b hb => r4 b (.inl hb), fun b hb => ⟨(r5 b hb).1, ?_⟩, r6, fun c ch hc b hb => ?_, r8, r9⟩
    · rcases (r5 b hb).2 with h | ⟨c, ch, hc, hb⟩ | h
      · exact h.elim .inl fun h => .inr (.inl ⟨d, _, ld, h⟩)
      · exact .inr (.inl ⟨c, ch, inB hc, hb⟩)
      · exact .inr (.inr h)
    · obtain ⟨g1, g2, g3⟩ := r7 c ch hc b hb
      exact ⟨g1, g2, g3.imp (fun ⟨c, ch, hc, hb⟩ => ⟨c, ch, inB hc, hb⟩) id⟩
end Go.Proofs.YtolaecebfkdbcaaGreat
