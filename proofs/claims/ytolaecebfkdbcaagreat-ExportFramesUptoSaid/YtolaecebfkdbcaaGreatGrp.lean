/-
  Objects: several blocks as one; a pool of objects by their addresses.
-/
import Derived.Test.YtolaecebfkdbcaaGreatGh
set_option linter.unusedVariables false
set_option linter.unusedSimpArgs false
namespace Go.Proofs.YtolaecebfkdbcaaGreat
open Go.RowKit

/-- Several blocks, numbered within; c is where it begins. -/
def grpR (c : Nat) (Bl : BL) (I F : Nat → Prop) (w : World) (p : Pl) : Prop :=
  ∃ (ρ : Nat → Pl) (G : Nat → Nat → Prop), ρ c = p ∧ (∀ d ch, lookB Bl d = some ch → Holds ρ I (G d) w (ρ d) ch) ∧
    (∀ d d' ch ch' b, lookB Bl d = some ch → lookB Bl d' = some ch' → d ≠ d' → G d b → ¬ G d' b) ∧ ∀ b, F b ↔ ∃ d ch, lookB Bl d = some ch ∧ G d b
def Ob.grp (c : Nat) (Bl : BL) : Ob where
  R := grpR c Bl
  stable := fun I F w I' w' p ⟨ρ, G, h1, h2, h3, h4⟩ he hF hz => ⟨ρ, G, h1, fun d ch hd => Holds.stable he (fun b hb => hF b ((h4 b).2 ⟨d, ch, hd, hb⟩)) hz ch (fun _ _ => rfl) (h2 d ch hd), h3, h4⟩
/-- .. that lies at b. -/
def Ob.at (o : Ob) (b : Nat) : Ob where
  R := fun I F w p => p.blk = b ∧ o.R I F w p
  stable := fun I F w I' w' p h he hF hz => ⟨h.1, o.stable I F w I' w' p h.2 he hF hz⟩
def Ob.le (o o' : Ob) : Prop := ∀ I F w p, o.R I F w p → o'.R I F w p
/-- A pool of objects, by their addresses. -/
def poolR (I : Nat → Prop) (w : World) : List (Nat × Ob) → (Nat → Prop) → Prop
  | [], F => ∀ b, ¬ F b
  | (a, o) :: L, F => ∃ (F1 F2 : Nat → Prop) (p : Pl), (∀ b, F b ↔ F1 b ∨ F2 b) ∧ (∀ b, F1 b → ¬ F2 b) ∧ p.blk = a ∧ o.R I F1 w p ∧ poolR I w L F2
theorem poolR.stable {I I' : Nat → Prop} {w w' : World} (he : Ext I w I' w') (hz : w.heap.size ≤ w'.heap.size) : ∀ {L : List (Nat × Ob)} {F : Nat → Prop}, (∀ b, F b → w'.heap[b]? = w.heap[b]?) → poolR I w L F → poolR I' w' L F
  | [], _, _, h => h
  | (a, o) :: L, F, hF, ⟨F1, F2, p, h1, h2, h3, h4, h5⟩ => ⟨F1, F2, p, h1, h2, h3, o.stable _ _ _ _ _ _ h4 he (fun b hb => hF b ((h1 b).2 (.inl hb))) hz, h5.stable he hz (fun b hb => hF b ((h1 b).2 (.inr hb)))⟩
def Ob.pool (L : List (Nat × Ob)) : Ob where
  R := fun I F w _ => poolR I w L F
  stable := fun I F w I' w' p h he hF hz => h.stable he hz hF
def pget : List (Nat × Ob) → Nat → Option Ob
  | [], _ => none
  | (a, o) :: L, b => if a = b then some o else pget L b
def pset : List (Nat × Ob) → Nat → Ob → List (Nat × Ob)
  | [], _, _ => []
  | (a, o) :: L, b, o' => if a = b then (a, o') :: L else (a, o) :: pset L b o'
/-- One taken out; and put back, turned. -/
theorem poolR.out {I : Nat → Prop} {w : World} {b : Nat} {o : Ob} : ∀ {L : List (Nat × Ob)} {F : Nat → Prop}, pget L b = some o → poolR I w L F → ∃ (F1 F2 : Nat → Prop) (p : Pl), (∀ x, F x ↔ F1 x ∨ F2 x) ∧ (∀ x, F1 x → ¬ F2 x) ∧ p.blk = b ∧ o.R I F1 w p ∧
    ∀ (I' : Nat → Prop) (w' : World) (o' : Ob) (F1' : Nat → Prop) (p' : Pl), Ext I w I' w' → w.heap.size ≤ w'.heap.size → (∀ x, F2 x → w'.heap[x]? = w.heap[x]?) → p'.blk = b → o'.R I' F1' w' p' → (∀ x, F1' x → ¬ F2 x) → poolR I' w' (pset L b o') (fun x => F1' x ∨ F2 x)
  | [], F, h, _ => by cases h
  | (a, q) :: L, F, h, ⟨G1, G2, p, h1, h2, h3, h4, h5⟩ => by
    unfold pget at h
    split at h
    · rename_i e
      injection h with h
      subst h
      refine ⟨G1, G2, p, h1, h2, h3.trans e, h4, fun I' w' o' F1' p' he hz hf hp ho hd => ?_⟩
      unfold pset
      rw [if_pos e]
      exact ⟨F1', G2, p', fun x => Iff.rfl, hd, hp.trans e.symm, ho, h5.stable he hz hf⟩
    · rename_i e
      obtain ⟨F1, F2, p1, g1, g2, g3, g4, g5⟩ := poolR.out h h5
      refine ⟨F1, fun x => G1 x ∨ F2 x, p1, fun x => ?_, fun x hx => ?_, g3, g4, fun I' w' o' F1' p' he hz hf hp ho hd => ?_⟩
      · rw [h1, g1]
        constructor
        · rintro (h | h | h)
          · exact .inr (.inl h)
          · exact .inl h
          · exact .inr (.inr h)
        · rintro (h | h | h)
          · exact .inr (.inl h)
          · exact .inl h
          · exact .inr (.inr h)
      · rintro (h | h)
        · exact h2 x h ((g1 x).2 (.inl hx))
        · exact g2 x hx h
      · unfold pset
        rw [if_neg e]
        refine ⟨G1, fun x => F1' x ∨ F2 x, p, fun x => ?_, fun x hx => ?_, h3, q.stable _ _ _ _ _ _ h4 he (fun x hx => hf x (.inl hx)) hz, g5 I' w' o' F1' p' he hz (fun x hx => hf x (.inr hx)) hp ho (fun x hx h => hd x hx (.inr h))⟩
        · constructor
          · rintro (h | h | h)
            · exact .inr (.inl h)
            · exact .inl h
            · exact .inr (.inr h)
          · rintro (h | h | h)
            · exact .inr (.inl h)
            · exact .inl h
            · exact .inr (.inr h)
        · rintro (h | h)
          · exact hd x h (.inl hx)
          · exact h2 x hx ((g1 x).2 (.inr h))
/-- A new one put in. -/
theorem poolR.add {I : Nat → Prop} {w : World} {L : List (Nat × Ob)} {F F1 : Nat → Prop} {o : Ob} {p : Pl} (h : poolR I w L F) (ho : o.R I F1 w p) (hd : ∀ x, F1 x → ¬ F x) : poolR I w ((p.blk, o) :: L) (fun x => F1 x ∨ F x) :=
  ⟨F1, F, p, fun _ => Iff.rfl, hd, rfl, ho, h⟩
theorem FnX.fn {P : Program} {f : FuncId} {args : List SV} {Bi : BL} {nw : List Nat} {res : SV} {Bo : BL} (h : FnX P f args Bi nw (fun _ : Unit => res) (fun _ => Bo)) : Fn P f args Bi nw res Bo :=
  ⟨h.1, fun ρ F I w vals a1 a2 a3 a4 a5 a6 => (h.2 ρ F I w vals a1 a2 a3 a4 a5 a6).mono fun e w' ⟨_, q⟩ => q⟩
def noneOf (l : List Nat) (v : Nat → Bool) : Bool := l.all fun d => !v d
theorem noneOf_get {l : List Nat} {v : Nat → Bool} (h : noneOf l v = true) {d : Nat} (hd : d ∈ l) : v d = false := by
  have := List.all_eq_true.1 h d hd
  simpa using this
/-- A contract on one of a pool. -/
theorem FnX.pool {P : Program} {f : FuncId} {c q b : Nat} {args : List SV} {Bi : BL} {nw : List Nat} {X : Type} {res : X → SV} {Bo : X → BL} {o : Ob} {o' : X → Ob} {L : List (Nat × Ob)}
    (h : FnX P f (.c (.one (.ptr c 0)) :: args) ((c, .obj o) :: Bi) nw res (fun g => (c, .obj (o' g)) :: Bo g)) (hL : pget L b = some o)
    (h1 : (args.all fun v => !v.has c) = true) (h2 : noB c Bi = true ∧ (lookB Bi q).isNone = true) (h3 : (nw.contains c || nw.contains q) = false) (h4 : ∀ g, (noB c (Bo g) && (lookB (Bo g) q).isNone && !(res g).has c) = true) :
    FnX P f (.c (.one (.d (.adr (some b)))) :: args) ((q, .obj (.pool L)) :: Bi) nw res (fun g => (q, .obj (.pool (pset L b (o' g)))) :: Bo g) := by
  obtain ⟨hcall, h⟩ := h
  refine ⟨hcall, fun ρ F I w vals hI hH hF hdj hlen hden => ?_⟩
  have hq : lookB ((q, Ch.obj (.pool L)) :: Bi) q = some (.obj (.pool L)) := by rw [lookB_cons, if_pos rfl]
  have hP : poolR I w L (F q) := hH q _ hq
  obtain ⟨F1, F2, p, k1, k2, k3, k4, k5⟩ := hP.out hL
  obtain ⟨nb1, nb2⟩ := noB_has h2.1
  have hqn : lookB Bi q = none := by simpa using h2.2
  have hBi : ∀ {d ch}, lookB Bi d = some ch → d ≠ q ∧ d ≠ c ∧ lookB ((q, Ch.obj (.pool L)) :: Bi) d = some ch := fun {d ch} hd => by
    have e1 : d ≠ q := fun e => by rw [e, hqn] at hd; cases hd
    exact ⟨e1, fun e => (by rw [e, nb1] at hd; cases hd), by rw [lookB_cons, if_neg (Ne.symm e1)]; exact hd⟩
  have hρ0 : ∀ (v : SV), v.has c = false → ∀ d, v.has d = true → upd ρ c p d = ρ d := fun v hv d hd => upd_other _ _ (fun e => by rw [e, hv] at hd; cases hd)
  match vals, hlen with
  | v0 :: vals, hlen =>
    have hv0 : v0 = .pointer (some ⟨b, 0, none⟩) := hden 0 _ v0 rfl rfl
    have hcase : ∀ {d ch}, lookB ((c, Ch.obj o) :: Bi) d = some ch → (d = c ∧ ch = .obj o) ∨ (d ≠ c ∧ lookB Bi d = some ch) := fun {d ch} hd => by
      rw [lookB_cons] at hd
      split at hd
      · rename_i e; injection hd with hd; exact .inl ⟨e.symm, hd.symm⟩
      · rename_i e; exact .inr ⟨Ne.symm e, hd⟩
    refine (h (upd ρ c p) (upd F c F1) I w (v0 :: vals) hI ?_ ?_ ?_ (by simpa using hlen) ?_).mono ?_
    · intro d ch hd
      rcases hcase hd with ⟨rfl, rfl⟩ | ⟨e, hd⟩
      · rw [upd_same, upd_same]; exact k4
      · rw [upd_other _ _ e, upd_other _ _ e]
        exact Holds.stable (Ext.refl _ _) (fun _ _ => rfl) (Nat.le_refl _) ch (fun j hj => upd_other _ _ (fun e' => by rw [e', nb2 d ch hd] at hj; cases hj)) (hH d ch (hBi hd).2.2)
    · intro d ch hd x hx
      rcases hcase hd with ⟨rfl, rfl⟩ | ⟨e, hd⟩
      · rw [upd_same] at hx
        exact hF q _ hq x ((k1 x).2 (.inl hx))
      · rw [upd_other _ _ e] at hx
        exact hF d ch (hBi hd).2.2 x hx
    · intro d d' ch ch' x hd hd' hne hx hx'
      rcases hcase hd with ⟨ed, _⟩ | ⟨e, hdb⟩
      · rcases hcase hd' with ⟨ed', _⟩ | ⟨e', hdb'⟩
        · exact hne (ed.trans ed'.symm)
        · rw [ed, upd_same] at hx
          rw [upd_other _ _ e'] at hx'
          exact hdj q d' _ ch' x hq (hBi hdb').2.2 (Ne.symm (hBi hdb').1) ((k1 x).2 (.inl hx)) hx'
      · rw [upd_other _ _ e] at hx
        rcases hcase hd' with ⟨ed', _⟩ | ⟨e', hdb'⟩
        · rw [ed', upd_same] at hx'
          exact hdj q d _ ch x hq (hBi hdb).2.2 (Ne.symm (hBi hdb).1) ((k1 x).2 (.inl hx')) hx
        · rw [upd_other _ _ e'] at hx'
          exact hdj d d' ch ch' x (hBi hdb).2.2 (hBi hdb').2.2 hne hx hx'
    · intro i v x hv hx
      match i with
      | 0 =>
        simp only [List.getElem?_cons_zero, Option.some.injEq] at hv hx
        subst hv hx
        show v0 = _
        rw [upd_same, k3]
        exact hv0
      | i + 1 =>
        have hv' : args[i]? = some v := by simpa using hv
        have := List.all_eq_true.1 h1 v (List.mem_of_getElem? hv')
        exact DenV.mono (Ext.refl _ _) v x (hρ0 v (by simpa using this)) (hden (i + 1) v x (by simpa using hv) hx)
    · rintro e w' ⟨g, x, ρ', F', rfl, hfr, hρ, I', he1, he2, hH', hO, hDj, hden'⟩
      have hg := h4 g
      simp only [Bool.and_eq_true, Bool.not_eq_true'] at hg
      obtain ⟨⟨g1, g2⟩, g3⟩ := hg
      obtain ⟨m1, m2⟩ := noB_has g1
      have hqo : lookB (Bo g) q = none := by simpa using g2
      simp only [Bool.or_eq_false_iff] at h3
      have hcn : c ∉ nw := fun hh => by have := List.contains_iff_mem.2 hh; rw [h3.1] at this; cases this
      have hqn' : q ∉ nw := fun hh => by have := List.contains_iff_mem.2 hh; rw [h3.2] at this; cases this
      have hcc : lookB ((c, Ch.obj (o' g)) :: Bo g) c = some (.obj (o' g)) := by rw [lookB_cons, if_pos rfl]
      have hBo : ∀ {d ch}, lookB (Bo g) d = some ch → d ≠ c ∧ d ≠ q ∧ lookB ((c, Ch.obj (o' g)) :: Bo g) d = some ch := fun {d ch} hd => by
        have e1 : d ≠ c := fun e => by rw [e, m1] at hd; cases hd
        exact ⟨e1, fun e => (by rw [e, hqo] at hd; cases hd), by rw [lookB_cons, if_neg (Ne.symm e1)]; exact hd⟩
      have hFr : ∀ y, (∃ d ch, lookB ((c, Ch.obj o) :: Bi) d = some ch ∧ upd F c F1 d y) → ∃ d ch, lookB ((q, Ch.obj (.pool L)) :: Bi) d = some ch ∧ F d y := by
        rintro y ⟨d, ch, hd, hy⟩
        rcases hcase hd with ⟨rfl, rfl⟩ | ⟨e, hd⟩
        · rw [upd_same] at hy
          exact ⟨q, _, hq, (k1 y).2 (.inl hy)⟩
        · rw [upd_other _ _ e] at hy
          exact ⟨d, ch, (hBi hd).2.2, hy⟩
      have hF2 : ∀ y, F2 y → ¬ ∃ d ch, lookB ((c, Ch.obj o) :: Bi) d = some ch ∧ upd F c F1 d y := by
        rintro y hy ⟨d, ch, hd, hy'⟩
        rcases hcase hd with ⟨rfl, rfl⟩ | ⟨e, hd⟩
        · rw [upd_same] at hy'
          exact k2 y hy' hy
        · rw [upd_other _ _ e] at hy'
          exact hdj q d _ ch y hq (hBi hd).2.2 (Ne.symm (hBi hd).1) ((k1 y).2 (.inr hy)) hy'
      have hF2s : ∀ y, F2 y → y < w.heap.size ∧ ¬ I y := fun y hy => hF q _ hq y ((k1 y).2 (.inr hy))
      have hold : ∀ y, F2 y → w'.heap[y]? = w.heap[y]? := fun y hy => hfr.block y (hF2s y hy).1 (hF2 y hy)
      have hnot : ∀ d ch y, lookB ((c, Ch.obj (o' g)) :: Bo g) d = some ch → F' d y → ¬ F2 y := fun d ch y hd hy h2y => by
        rcases (hO d ch hd y hy).2.2 with h | h
        · exact hF2 y h2y h
        · have := (hF2s y h2y).1; omega
      have hρc : ρ' c = p := by rw [hρ c hcn, upd_same]
      have hnew := k5 I' w' (o' g) (F' c) (ρ' c) he1 hfr.size hold (by rw [hρc]; exact k3) (hH' c _ hcc) (fun y hy => hnot c _ y hcc hy)
      refine ⟨g, x, upd ρ' c (ρ c), fun d => if d = q then (fun y => F' c y ∨ F2 y) else F' d, rfl, hfr.mono fun y _ hy => hFr y hy, fun d hd => ?_, I', he1, fun y hy => ⟨(he2 y hy).1, ?_⟩, ?_, ?_, ?_, ?_⟩
      · by_cases e : d = c
        · subst e; rw [upd_same]
        · rw [upd_other _ _ e, hρ d hd, upd_other _ _ e]
      · rcases (he2 y hy).2 with h | h | h
        · exact .inl h
        · exact .inr (.inl (hFr y h))
        · exact .inr (.inr h)
      · intro d ch hd
        rw [lookB_cons] at hd
        split at hd
        · rename_i e
          injection hd with hd
          subst hd e
          simp only [if_true]
          exact hnew
        · rename_i e
          obtain ⟨e1, e2, e3⟩ := hBo hd
          simp only [if_neg e2]
          rw [upd_other _ _ e1]
          exact Holds.stable (Ext.refl _ _) (fun _ _ => rfl) (Nat.le_refl _) ch (fun j hj => upd_other _ _ (fun e' => by rw [e', m2 d ch hd] at hj; cases hj)) (hH' d ch e3)
      · intro d ch hd y hy
        rw [lookB_cons] at hd
        split at hd
        · rename_i e
          subst e
          simp only [if_true] at hy
          rcases hy with hy | hy
          · obtain ⟨a1, a2, a3⟩ := hO c _ hcc y hy
            exact ⟨a1, a2, a3.imp (hFr y) id⟩
          · refine ⟨Nat.lt_of_lt_of_le (hF2s y hy).1 hfr.size, fun hi => ?_, .inl ⟨q, _, hq, (k1 y).2 (.inr hy)⟩⟩
            rcases (he2 y hi).2 with h | h | h
            · exact (hF2s y hy).2 h
            · exact hF2 y hy h
            · have := (hF2s y hy).1; omega
        · obtain ⟨e1, e2, e3⟩ := hBo hd
          simp only [if_neg e2] at hy
          obtain ⟨a1, a2, a3⟩ := hO d ch e3 y hy
          exact ⟨a1, a2, a3.imp (hFr y) id⟩
      · intro d d' ch ch' y hd hd' hne hy hy'
        rw [lookB_cons] at hd hd'
        split at hd
        · rename_i e
          subst e
          rw [if_neg hne] at hd'
          obtain ⟨e1, e2, e3⟩ := hBo hd'
          simp only [if_true] at hy
          simp only [if_neg e2] at hy'
          rcases hy with hy | hy
          · exact hDj c d' _ ch' y hcc e3 (Ne.symm e1) hy hy'
          · exact hnot d' ch' y e3 hy' hy
        · obtain ⟨e1, e2, e3⟩ := hBo hd
          simp only [if_neg e2] at hy
          split at hd'
          · rename_i e
            subst e
            simp only [if_true] at hy'
            rcases hy' with hy' | hy'
            · exact hDj d c ch _ y e3 hcc e1 hy hy'
            · exact hnot d ch y e3 hy hy'
          · obtain ⟨e1', e2', e3'⟩ := hBo hd'
            simp only [if_neg e2'] at hy'
            exact hDj d d' ch ch' y e3 e3' hne hy hy'
      · exact DenV.mono (Ext.refl _ _) (res g) x (fun j hj => upd_other _ _ (fun e' => by rw [e', g3] at hj; cases hj)) hden'
theorem lookB_app : ∀ (B B' : BL) (c : Nat), lookB (B ++ B') c = (match lookB B c with
    | some ch => some ch
    | none => lookB B' c)
  | [], B', c => rfl
  | (d, ch) :: B, B', c => by
    rw [List.cons_append, lookB_cons, lookB_cons, lookB_app B B' c]
    split <;> rfl
def noneIn (l : List Nat) : BL → Bool
  | [] => true
  | (c, ch) :: B => !l.contains c && (l.all fun d => !ch.has d) && noneIn l B
theorem noneIn_get {l : List Nat} : ∀ {B : BL}, noneIn l B = true → ∀ {c ch}, lookB B c = some ch → c ∉ l ∧ ∀ d, d ∈ l → ch.has d = false
  | (c, ch) :: B, h, d, ch', hd => by
    simp only [noneIn, Bool.and_eq_true, Bool.not_eq_true'] at h
    rw [lookB_cons] at hd
    split at hd
    · rename_i e
      subst e
      injection hd with hd
      subst hd
      refine ⟨fun hh => ?_, fun x hx => ?_⟩
      · have := List.contains_iff_mem.2 hh
        rw [h.1.1] at this
        cases this
      · have := List.all_eq_true.1 h.1.2 x hx
        simpa using this
    · exact noneIn_get h.2 hd
def hidOf (inn nw nw' : List Nat) : List Nat := inn ++ nw.filter fun d => !nw'.contains d
theorem mem_of_contains {l : List Nat} {d : Nat} (h : l.contains d = true) : d ∈ l := List.contains_iff_mem.1 h
theorem not_mem_of {l : List Nat} {d : Nat} (h : l.contains d = false) : d ∉ l := fun hh => by rw [List.contains_iff_mem.2 hh] at h; cases h
def closeIn (c : Nat) (inn : List Nat) (args : List SV) (Bl Bi : BL) (nw nw' : List Nat) : Bool :=
  (keysB Bl).contains c && (keysB Bl).all (fun d => (c :: inn).contains d) && amongB (c :: inn) Bl && !nw.contains c && !inn.contains c && nw'.all (fun d => nw.contains d && !inn.contains d) && (args.all fun v => inn.all fun d => !v.has d) && noneIn inn Bi && (lookB Bi c).isNone
def closeOut (c : Nat) (hid : List Nat) (res : SV) (Bl' Bo : BL) : Bool :=
  (keysB Bl').contains c && (keysB Bl').all (fun d => (c :: hid).contains d) && noneIn hid Bo && (lookB Bo c).isNone && (hid.all fun d => !res.has d)
/-- A contract on blocks laid open, as one on the object that they are. -/
theorem FnX.close {P : Program} {f : FuncId} {c : Nat} {args : List SV} {Bl Bi : BL} {nw nw' : List Nat} {X : Type} {res : X → SV} {Bl' Bo : X → BL} {o : Ob} {o' : X → Ob} (inn : List Nat)
    (h : FnX P f args (Bl ++ Bi) nw res (fun g => Bl' g ++ Bo g)) (hin : ∀ I F w p, o.R I F w p → grpR c Bl I F w p) (hout : ∀ g I F w p, grpR c (Bl' g) I F w p → (o' g).R I F w p)
    (h1 : closeIn c inn args Bl Bi nw nw' = true) (h2 : ∀ g, closeOut c (hidOf inn nw nw') (res g) (Bl' g) (Bo g) = true) :
    FnX P f args ((c, .obj o) :: Bi) nw' res (fun g => (c, .obj (o' g)) :: Bo g) := by
  obtain ⟨hcall, h⟩ := h
  simp only [closeIn, Bool.and_eq_true, Bool.not_eq_true', Option.isNone_iff_eq_none] at h1
  obtain ⟨⟨⟨⟨⟨⟨⟨⟨a1, a2⟩, a3⟩, a4⟩, a5⟩, a6⟩, a7⟩, a8⟩, a9⟩ := h1
  have a1 := mem_of_contains a1
  have a4 := not_mem_of a4
  have a5 := not_mem_of a5
  have a2' : ∀ d, d ∈ keysB Bl → d = c ∨ d ∈ inn := fun d hd => by
    have := mem_of_contains (List.all_eq_true.1 a2 d hd)
    exact List.mem_cons.1 this
  have a6' : ∀ d, d ∈ nw' → d ∈ nw ∧ d ∉ inn := fun d hd => by
    have := List.all_eq_true.1 a6 d hd
    simp only [Bool.and_eq_true, Bool.not_eq_true'] at this
    exact ⟨mem_of_contains this.1, not_mem_of this.2⟩
  refine ⟨hcall, fun ρ F I w vals hI hH hF hdj hlen hden => ?_⟩
  have hcl : lookB ((c, Ch.obj o) :: Bi) c = some (.obj o) := by rw [lookB_cons, if_pos rfl]
  obtain ⟨ρi, G, q1, q2, q3, q4⟩ := hin _ _ _ _ (hH c _ hcl)
  have hBi : ∀ {d ch}, lookB Bi d = some ch → d ≠ c ∧ d ∉ inn ∧ lookB ((c, Ch.obj o) :: Bi) d = some ch := fun {d ch} hd => by
    have e1 : d ≠ c := fun e => by rw [e, a9] at hd; cases hd
    exact ⟨e1, (noneIn_get a8 hd).1, by rw [lookB_cons, if_neg (Ne.symm e1)]; exact hd⟩
  have hcase : ∀ {d ch}, lookB (Bl ++ Bi) d = some ch → (lookB Bl d = some ch ∧ d ∈ keysB Bl) ∨ (d ∉ keysB Bl ∧ lookB Bi d = some ch) := fun {d ch} hd => by
    rw [lookB_app] at hd
    cases e : lookB Bl d with
    | some ch' =>
      rw [e] at hd
      exact .inl ⟨hd, keysB_mem.2 ⟨ch', e⟩⟩
    | none =>
      rw [e] at hd
      exact .inr ⟨fun hk => (by obtain ⟨ch', hk⟩ := keysB_mem.1 hk; rw [e] at hk; cases hk), hd⟩
  let ρs : Nat → Pl := fun d => if d ∈ inn then ρi d else ρ d
  let Fs : Nat → Nat → Prop := fun d => if d ∈ keysB Bl then G d else F d
  have hρs : ∀ d, d ∉ inn → ρs d = ρ d := fun d hd => if_neg hd
  have hρi : ∀ d, d ∈ c :: inn → ρs d = ρi d := fun d hd => by
    rcases List.mem_cons.1 hd with rfl | hd
    · rw [hρs _ a5, q1]
    · exact if_pos hd
  have hFr : ∀ y, (∃ d ch, lookB (Bl ++ Bi) d = some ch ∧ Fs d y) → ∃ d ch, lookB ((c, Ch.obj o) :: Bi) d = some ch ∧ F d y := by
    rintro y ⟨d, ch, hd, hy⟩
    rcases hcase hd with ⟨e1, e2⟩ | ⟨e1, e2⟩
    · have hy : G d y := by simpa only [Fs, if_pos e2] using hy
      exact ⟨c, _, hcl, (q4 y).2 ⟨d, ch, e1, hy⟩⟩
    · have hy : F d y := by simpa only [Fs, if_neg e1] using hy
      exact ⟨d, ch, (hBi e2).2.2, hy⟩
  refine (h ρs Fs I w vals hI ?_ ?_ ?_ hlen ?_).mono ?_
  · intro d ch hd
    rcases hcase hd with ⟨e1, e2⟩ | ⟨e1, e2⟩
    · have hk : d ∈ c :: inn := List.mem_cons.2 (a2' d e2)
      rw [hρi d hk]
      simp only [Fs, if_pos e2]
      exact Holds.stable (Ext.refl _ _) (fun _ _ => rfl) (Nat.le_refl _) ch (fun j hj => hρi j (Ch.among_has (amongB_get a3 e1) hj)) (q2 d ch e1)
    · rw [hρs d (hBi e2).2.1]
      simp only [Fs, if_neg e1]
      exact Holds.stable (Ext.refl _ _) (fun _ _ => rfl) (Nat.le_refl _) ch (fun j hj => hρs j (fun hji => by rw [(noneIn_get a8 e2).2 j hji] at hj; cases hj)) (hH d ch (hBi e2).2.2)
  · intro d ch hd x hx
    rcases hcase hd with ⟨e1, e2⟩ | ⟨e1, e2⟩
    · simp only [Fs, if_pos e2] at hx
      exact hF c _ hcl x ((q4 x).2 ⟨d, ch, e1, hx⟩)
    · simp only [Fs, if_neg e1] at hx
      exact hF d ch (hBi e2).2.2 x hx
  · intro d d' ch ch' x hd hd' hne hx hx'
    rcases hcase hd with ⟨e1, e2⟩ | ⟨e1, e2⟩
    · simp only [Fs, if_pos e2] at hx
      rcases hcase hd' with ⟨e1', e2'⟩ | ⟨e1', e2'⟩
      · simp only [Fs, if_pos e2'] at hx'
        exact q3 d d' ch ch' x e1 e1' hne hx hx'
      · simp only [Fs, if_neg e1'] at hx'
        exact hdj c d' _ ch' x hcl (hBi e2').2.2 (Ne.symm (hBi e2').1) ((q4 x).2 ⟨d, ch, e1, hx⟩) hx'
    · simp only [Fs, if_neg e1] at hx
      rcases hcase hd' with ⟨e1', e2'⟩ | ⟨e1', e2'⟩
      · simp only [Fs, if_pos e2'] at hx'
        exact hdj c d _ ch x hcl (hBi e2).2.2 (Ne.symm (hBi e2).1) ((q4 x).2 ⟨d', ch', e1', hx'⟩) hx
      · simp only [Fs, if_neg e1'] at hx'
        exact hdj d d' ch ch' x (hBi e2).2.2 (hBi e2').2.2 hne hx hx'
  · intro i v x hv hx
    have hva := List.all_eq_true.1 a7 v (List.mem_of_getElem? hv)
    exact DenV.mono (Ext.refl _ _) v x (fun j hj => hρs j (fun hji => by
      have := List.all_eq_true.1 hva j hji
      rw [hj] at this
      cases this)) (hden i v x hv hx)
  · rintro e w' ⟨g, x, ρ', F', rfl, hfr, hρ, I', he1, he2, hH', hO, hDj, hden'⟩
    have hg := h2 g
    simp only [closeOut, Bool.and_eq_true, Option.isNone_iff_eq_none] at hg
    obtain ⟨⟨⟨⟨b1, b2⟩, b3⟩, b4⟩, b5⟩ := hg
    have b1 := mem_of_contains b1
    have hhid : ∀ d, d ∉ hidOf inn nw nw' → d ∉ inn ∧ (d ∈ nw → d ∈ nw') := fun d hd => by
      refine ⟨fun hh => hd (List.mem_append.2 (.inl hh)), fun hh => ?_⟩
      rcases Decidable.em (d ∈ nw') with h | h
      · exact h
      · exact absurd (List.mem_append.2 (.inr (List.mem_filter.2 ⟨hh, by simpa using h⟩))) hd
    have hch : c ∉ hidOf inn nw nw' := fun hh => by
      rcases List.mem_append.1 hh with h | h
      · exact a5 h
      · exact a4 (List.mem_filter.1 h).1
    let ρ2 : Nat → Pl := fun d => if d ∈ nw' then ρ' d else ρ d
    have hρ2 : ∀ d, d ∉ hidOf inn nw nw' → ρ2 d = ρ' d := fun d hd => by
      obtain ⟨e1, e2⟩ := hhid d hd
      show (if d ∈ nw' then ρ' d else ρ d) = ρ' d
      split
      · rfl
      · rename_i hn
        rw [hρ d (fun hh => hn (e2 hh)), hρs d e1]
    have hBl : ∀ {d ch}, lookB (Bl' g) d = some ch → lookB (Bl' g ++ Bo g) d = some ch := fun {d ch} hd => by rw [lookB_app, hd]
    have hBo : ∀ {d ch}, lookB (Bo g) d = some ch → d ≠ c ∧ d ∉ hidOf inn nw nw' ∧ lookB (Bl' g) d = none ∧ lookB (Bl' g ++ Bo g) d = some ch := fun {d ch} hd => by
      have e1 : d ≠ c := fun e => by rw [e, b4] at hd; cases hd
      have e2 := (noneIn_get b3 hd).1
      have e3 : lookB (Bl' g) d = none := by
        cases e : lookB (Bl' g) d with
        | none => rfl
        | some ch' =>
          have := mem_of_contains (List.all_eq_true.1 b2 d (keysB_mem.2 ⟨ch', e⟩))
          rcases List.mem_cons.1 this with h | h
          · exact absurd h e1
          · exact absurd h e2
      exact ⟨e1, e2, e3, by rw [lookB_app, e3]; exact hd⟩
    refine ⟨g, x, ρ2, fun d => if d = c then (fun y => ∃ d' ch', lookB (Bl' g) d' = some ch' ∧ F' d' y) else F' d, rfl, hfr.mono fun y _ hy => hFr y hy, fun d hd => if_neg hd, I', he1, fun y hy => ⟨(he2 y hy).1, ?_⟩, ?_, ?_, ?_, ?_⟩
    · rcases (he2 y hy).2 with h | h | h
      · exact .inl h
      · exact .inr (.inl (hFr y h))
      · exact .inr (.inr h)
    · intro d ch hd
      rw [lookB_cons] at hd
      split at hd
      · rename_i e
        injection hd with hd
        subst hd e
        simp only [if_true]
        rw [hρ2 _ hch]
        exact hout g _ _ _ _ ⟨ρ', F', rfl, fun d ch hd => hH' d ch (hBl hd), fun d d' ch ch' b hd hd' hne => hDj d d' ch ch' b (hBl hd) (hBl hd') hne, fun b => Iff.rfl⟩
      · obtain ⟨e1, e2, e3, e4⟩ := hBo hd
        simp only [if_neg e1]
        rw [hρ2 d e2]
        exact Holds.stable (Ext.refl _ _) (fun _ _ => rfl) (Nat.le_refl _) ch (fun j hj => hρ2 j (fun hji => by rw [(noneIn_get b3 hd).2 j hji] at hj; cases hj)) (hH' d ch e4)
    · intro d ch hd y hy
      rw [lookB_cons] at hd
      split at hd
      · rename_i e
        subst e
        simp only [if_true] at hy
        obtain ⟨d', ch', h1, h2⟩ := hy
        obtain ⟨c1, c2, c3⟩ := hO d' ch' (hBl h1) y h2
        exact ⟨c1, c2, c3.imp (hFr y) id⟩
      · obtain ⟨e1, e2, e3, e4⟩ := hBo hd
        simp only [if_neg e1] at hy
        obtain ⟨c1, c2, c3⟩ := hO d ch e4 y hy
        exact ⟨c1, c2, c3.imp (hFr y) id⟩
    · intro d d' ch ch' y hd hd' hne hy hy'
      rw [lookB_cons] at hd hd'
      split at hd
      · rename_i e
        subst e
        rw [if_neg hne] at hd'
        obtain ⟨e1, e2, e3, e4⟩ := hBo hd'
        simp only [if_true] at hy
        simp only [if_neg e1] at hy'
        obtain ⟨d1, ch1, h1, h2⟩ := hy
        exact hDj d1 d' ch1 ch' y (hBl h1) e4 (fun e => by rw [e, e3] at h1; cases h1) h2 hy'
      · obtain ⟨e1, e2, e3, e4⟩ := hBo hd
        simp only [if_neg e1] at hy
        split at hd'
        · rename_i e
          subst e
          simp only [if_true] at hy'
          obtain ⟨d1, ch1, h1, h2⟩ := hy'
          exact hDj d d1 ch ch1 y e4 (hBl h1) (fun e => by rw [← e, e3] at h1; cases h1) hy h2
        · obtain ⟨e1', e2', e3', e4'⟩ := hBo hd'
          simp only [if_neg e1'] at hy'
          exact hDj d d' ch ch' y e4 e4' hne hy hy'
    · exact DenV.mono (Ext.refl _ _) (res g) x (fun j hj => hρ2 j (fun hji => by
        have := List.all_eq_true.1 b5 j hji
        rw [hj] at this
        cases this)) hden'
/-- Other numbers within. -/
theorem grpR.ofRn {f g : Nat → Nat} (hgf : ∀ c, g (f c) = c) (hfg : ∀ c, f (g c) = c) {c : Nat} {Bl : BL} {I F : Nat → Prop} {w : World} {p : Pl} (h : grpR c Bl I F w p) : grpR (f c) (rnB f Bl) I F w p := by
  obtain ⟨ρ, G, h1, h2, h3, h4⟩ := h
  have hl : ∀ {d ch}, lookB (rnB f Bl) d = some ch → ∃ ch0, lookB Bl (g d) = some ch0 ∧ ch = ch0.rn f := fun {d ch} hd => by
    rw [← hfg d, lookB_rnB hgf] at hd
    obtain ⟨ch0, e1, e2⟩ := Option.map_eq_some_iff.1 hd
    exact ⟨ch0, e1, e2.symm⟩
  refine ⟨fun d => ρ (g d), fun d => G (g d), by simp only [hgf]; exact h1, fun d ch hd => ?_, fun d d' ch ch' b hd hd' hne => ?_, fun b => ?_⟩
  · obtain ⟨ch0, e1, rfl⟩ := hl hd
    rw [Holds_rn]
    simp only [hgf]
    exact h2 _ _ e1
  · obtain ⟨ch0, e1, _⟩ := hl hd
    obtain ⟨ch1, e2, _⟩ := hl hd'
    exact h3 _ _ _ _ b e1 e2 (fun e => hne (by rw [← hfg d, ← hfg d', e]))
  · rw [h4]
    constructor
    · rintro ⟨d, ch, e1, e2⟩
      exact ⟨f d, ch.rn f, by rw [lookB_rnB hgf, e1]; rfl, by simp only [hgf]; exact e2⟩
    · rintro ⟨d, ch, e1, e2⟩
      obtain ⟨ch0, e3, _⟩ := hl e1
      exact ⟨g d, ch0, e3, e2⟩
/-- .. by pairs. -/
theorem grpR.ren (l : List (Nat × Nat)) {c : Nat} {Bl : BL} {I F : Nat → Prop} {w : World} {p : Pl} (h : grpR c Bl I F w p) : grpR (rn (mkRn l []) c) (rnB (rn (mkRn l [])) Bl) I F w p :=
  h.ofRn (g := rnI (mkRn l [])) (rnI_rn _) (rn_rnI _)
/-- The blocks of another order, or that more is said of. -/
theorem grpR.sub {c : Nat} {Bl Bl' : BL} {I F : Nat → Prop} {w : World} {p : Pl} (h : grpR c Bl I F w p) (h1 : ∀ d ch, lookB Bl d = some ch ↔ lookB Bl' d = some ch) : grpR c Bl' I F w p := by
  obtain ⟨ρ, G, e1, e2, e3, e4⟩ := h
  exact ⟨ρ, G, e1, fun d ch hd => e2 d ch ((h1 d ch).2 hd), fun d d' ch ch' b hd hd' => e3 d d' ch ch' b ((h1 d ch).2 hd) ((h1 d' ch').2 hd'), fun b => (e4 b).trans ⟨fun ⟨d, ch, a, b⟩ => ⟨d, ch, (h1 d ch).1 a, b⟩, fun ⟨d, ch, a, b⟩ => ⟨d, ch, (h1 d ch).2 a, b⟩⟩⟩
section
variable {ids : List Nat} {K : KL} {B : BL}
/-- A block's address, named. -/
theorem LeX.name (s c : Nat) {o : Ob} (hs : look K s = .c (.one (.ptr c 0))) (hc : lookB B c = some (.obj o)) : LeX ids K B (fun b : Nat => (s, .c (.one (.d (.adr (some b))))) :: K) (fun b => (c, .obj (o.at b)) :: B) := by
  rintro N C a w ⟨hn, hd, ρ, F, hM, hS⟩
  obtain ⟨hM', hE⟩ := hM.turn (w' := w) (ch := .obj (o.at (ρ c).blk)) hc (Fr.refl _ _) fun I hI => ⟨rfl, Holds.stable (ρ' := ρ) hI (fun _ _ => rfl) (Nat.le_refl _) (.obj o) (fun _ _ => rfl) (hM.holds c _ hc)⟩
  refine ⟨(ρ c).blk, hn, hd, ρ, F, hM', fun t => ?_⟩
  rw [look_cons]
  split
  · rename_i e
    subst e
    have := hS s
    rw [hs] at this
    exact this
  · exact hS.mono hE (fun _ _ _ => rfl) t
/-- An object, put into a pool. -/
theorem Le.put (q c : Nat) {o : Ob} {b : Nat} {L : List (Nat × Ob)} (hne : c ≠ q) (hq : lookB B q = some (.obj (.pool L))) (hc : lookB B c = some (.obj (o.at b))) : Le ids K B K ((q, .obj (.pool ((b, o) :: L))) :: dropB B c) := by
  rintro N C a w ⟨hn, hd, ρ, F, hM, hS⟩
  have hP : poolR _ _ L (F q) := hM.holds q _ hq
  have hO : (ρ c).blk = b ∧ o.R _ (F c) w (ρ c) := hM.holds c _ hc
  obtain ⟨rfl, hO⟩ := hO
  have hdj : ∀ x, F c x → ¬ F q x := fun x hx hx' => hM.disj c q _ _ x hc hq hne hx hx'
  obtain ⟨hM', hE⟩ := hM.step (B' := (q, .obj (.pool (((ρ c).blk, o) :: L))) :: dropB B c) (ρ' := ρ) (F' := upd F q (fun x => F c x ∨ F q x)) (w' := w) (fun d => d = c ∨ d = q) (fun _ => False) (Fr.refl _ _)
    (fun d ch hd hm => by
      rw [lookB_cons, if_neg (fun e => hm (.inr e.symm)), lookB_dropB, if_neg (fun e => hm (.inl e.symm))] at hd
      exact hd)
    (fun _ _ => rfl) (fun d hm => upd_other _ _ (fun e => hm (.inr e))) (fun _ _ h => h) (fun _ h => h.elim) (fun _ _ _ _ _ _ h => h)
    (fun d ch hd hm hE => by
      rw [lookB_cons] at hd
      split at hd
      · rename_i e
        subst e
        injection hd with hd
        subst hd
        rw [upd_same]
        exact poolR.add (hP.stable hE (Nat.le_refl _) (fun _ _ => rfl)) (o.stable _ _ _ _ _ _ hO hE (fun _ _ => rfl) (Nat.le_refl _)) hdj
      · rename_i e
        rcases hm with rfl | rfl
        · rw [lookB_dropB, if_pos rfl] at hd; cases hd
        · exact absurd rfl e)
    (fun d ch hd hm x hx => by
      rw [lookB_cons] at hd
      split at hd
      · rename_i e
        subst e
        rw [upd_same] at hx
        rcases hx with hx | hx
        · exact ⟨(hM.own c _ hc x hx).1, .inl ⟨c, _, hc, .inl rfl, hx⟩⟩
        · exact ⟨(hM.own q _ hq x hx).1, .inl ⟨q, _, hq, .inr rfl, hx⟩⟩
      · rename_i e
        rcases hm with rfl | rfl
        · rw [lookB_dropB, if_pos rfl] at hd; cases hd
        · exact absurd rfl e)
    (fun d d' ch ch' x hd hd' hm hm' hne' => by
      have key : ∀ d ch, lookB ((q, Ch.obj (.pool (((ρ c).blk, o) :: L))) :: dropB B c) d = some ch → (d = c ∨ d = q) → d = q := fun d ch hd hm => by
        rcases hm with rfl | rfl
        · rw [lookB_cons, if_neg (Ne.symm hne), lookB_dropB, if_pos rfl] at hd; cases hd
        · rfl
      exact absurd ((key d ch hd hm).trans (key d' ch' hd' hm').symm) hne')
  exact ⟨hn, hd, ρ, _, hM', hS.mono hE fun _ _ _ => rfl⟩
def dropBs : List Nat → BL → BL
  | [], B => B
  | c :: l, B => dropBs l (dropB B c)
theorem lookB_dropBs : ∀ (l : List Nat) (B : BL) (d : Nat), lookB (dropBs l B) d = if d ∈ l then none else lookB B d
  | [], B, d => by simp [dropBs]
  | c :: l, B, d => by
    rw [dropBs, lookB_dropBs l, lookB_dropB]
    by_cases h : d ∈ l
    · rw [if_pos h, if_pos (List.mem_cons_of_mem _ h)]
    · rw [if_neg h]
      by_cases e : c = d
      · subst e; rw [if_pos rfl, if_pos (List.mem_cons_self ..)]
      · rw [if_neg e, if_neg]
        intro hh
        rcases List.mem_cons.1 hh with rfl | hh
        · exact e rfl
        · exact h hh
/-- Blocks, taken as the object that they are. -/
theorem Le.close (c : Nat) (Bl : BL) {o : Ob} (hB : subB B Bl) (hc : (keysB Bl).contains c = true) (ho : ∀ I F w p, grpR c Bl I F w p → o.R I F w p) : Le ids K B K ((c, .obj o) :: dropBs (keysB Bl) B) := by
  rintro N C a w ⟨hn, hd, ρ, F, hM, hS⟩
  have hc := mem_of_contains hc
  have hl : ∀ {d ch}, lookB Bl d = some ch → lookB B d = some ch := fun {d ch} h => subB_get hB h
  have hdead : ∀ {d ch}, lookB ((c, Ch.obj o) :: dropBs (keysB Bl) B) d = some ch → d ∈ keysB Bl → d = c ∧ ch = .obj o := fun {d ch} hd hm => by
    rw [lookB_cons] at hd
    split at hd
    · rename_i e; injection hd with hd; exact ⟨e.symm, hd.symm⟩
    · rw [lookB_dropBs, if_pos hm] at hd; cases hd
  obtain ⟨hM', hE⟩ := hM.step (B' := (c, .obj o) :: dropBs (keysB Bl) B) (ρ' := ρ) (F' := fun d => if d ∈ keysB Bl then (fun x => ∃ d ch, lookB Bl d = some ch ∧ F d x) else F d) (w' := w) (fun d => d ∈ keysB Bl) (fun _ => False) (Fr.refl _ _)
    (fun d ch hd hm => by
      have hne : c ≠ d := fun e => hm (by rw [← e]; exact hc)
      rw [lookB_cons, if_neg hne, lookB_dropBs, if_neg hm] at hd
      exact hd)
    (fun _ _ => rfl) (fun d hm => if_neg hm) (fun _ _ h => h) (fun _ h => h.elim) (fun _ _ _ _ _ _ h => h)
    (fun d ch hd hm hE => by
      obtain ⟨rfl, rfl⟩ := hdead hd hm
      simp only [if_pos hm]
      exact ho _ _ _ _ ⟨ρ, F, rfl, fun d ch h => Holds.stable hE (fun _ _ => rfl) (Nat.le_refl _) ch (fun _ _ => rfl) (hM.holds d ch (hl h)), fun d d' ch ch' b h h' hne => hM.disj d d' ch ch' b (hl h) (hl h') hne, fun b => Iff.rfl⟩)
    (fun d ch hd hm x hx => by
      simp only [if_pos hm] at hx
      obtain ⟨d', ch', h1, h2⟩ := hx
      exact ⟨(hM.own d' ch' (hl h1) x h2).1, .inl ⟨d', ch', hl h1, keysB_mem.2 ⟨ch', h1⟩, h2⟩⟩)
    (fun d d' ch ch' x hd hd' hm hm' hne => absurd ((hdead hd hm).1.trans (hdead hd' hm').1.symm) hne)
  exact ⟨hn, hd, ρ, _, hM', hS.mono hE fun _ _ _ => rfl⟩
/-- A pool of none. -/
theorem Le.emp (q : Nat) (hf : freshB ids K B q = true) : Le ids K B K ((q, .obj (.pool [])) :: B) := by
  rintro N C a w ⟨hn, hd, ρ, F, hM, hS⟩
  have hfr := fresh_of hf
  obtain ⟨hM', hE⟩ := hM.make hf (Below.refl _ w) (ρ q) (fun _ => False) (fun _ h => h.elim) (ch := .obj (.pool [])) fun I _ _ => fun b h => h
  exact ⟨hn, hd, _, _, hM', hS.mono hE fun s d hd => upd_other _ _ (fun e => by subst e; rw [hfr.1 s] at hd; cases hd)⟩
end
end Go.Proofs.YtolaecebfkdbcaaGreat
