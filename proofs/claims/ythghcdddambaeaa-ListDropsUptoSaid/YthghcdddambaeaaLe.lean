/-
  From one state to another one that says less, or the same in other words.
-/
import Derived.Test.YthghcdddambaeaaCode
set_option linter.unusedVariables false
set_option linter.unusedSimpArgs false
namespace Go.Proofs.Ythghcdddambaeaa
open Go.RowKit

section
variable {ids : List Nat} {K : KL} {B : BL} {C : Ctx} {ρ : Nat → Pl} {F : Nat → Nat → Prop} {w : World}
def subK (K : KL) : KL → Prop
  | [] => True
  | (s, v) :: l => leV (look K s) v ∧ subK K l
theorem subK_get : ∀ {K' K : KL}, subK K K' → ∀ s, leV (look K s) (look K' s) ∨ look K' s = .c (.one .any)
  | [], K, h, s => .inr rfl
  | (t, v) :: K', K, h, s => by
    rw [look_cons]
    split
    · rename_i e
      subst e
      exact .inl h.1
    · exact subK_get h.2 s
/-- Slots and blocks are let go. -/
theorem Le.sub {K' : KL} {B' : BL} (hK : subK K K') (hB : subB B B') : Le ids K B K' B' := by
  rintro N C a w ⟨h1, h2, ρ, F, hM, hS⟩
  obtain ⟨hM', hE⟩ := hM.step (B' := B') (ρ' := ρ) (F' := F) (w' := w) (fun c => lookB B' c = none) (fun _ => False) (Fr.refl _ _) (fun c ch hc _ => subB_get hB hc) (fun _ _ => rfl) (fun _ _ => rfl) (fun _ _ h => h) (fun _ h => h.elim) (fun _ _ _ _ _ _ h => h)
    (fun c ch hc hn => by rw [hn] at hc; cases hc) (fun c ch hc hn => by rw [hn] at hc; cases hc) (fun c c' ch ch' b hc _ hn => by rw [hn] at hc; cases hc)
  refine ⟨h1, h2, ρ, F, hM', fun s => ?_⟩
  rcases subK_get hK s with h | h
  · exact DenV.mono hE _ _ (fun _ _ => rfl) (leV_den h (hS s))
  · rw [h]; trivial
theorem Le.eq {K' : KL} {B' : BL} (hK : K = K') (hB : B = B') : Le ids K B K' B' := by subst hK hB; exact Le.refl _ _

/-! ### a row that is given away as data -/
def S1.frz (c : Nat) (x : D) : S1 → S1
  | .own b => match Nat.beq b c with
    | true => .d x
    | false => .own b
  | s => s
def frzL (c : Nat) (x : D) : List S1 → List S1
  | [] => []
  | s :: l => s.frz c x :: frzL c x l
def SC.frz (c : Nat) (x : D) : SC → SC
  | .one s => .one (s.frz c x)
  | .agg l => .agg (frzL c x l)
def frzCL (c : Nat) (x : D) : List SC → List SC
  | [] => []
  | s :: l => s.frz c x :: frzCL c x l
def SV.frz (c : Nat) (x : D) : SV → SV
  | .c s => .c (s.frz c x)
  | .tup l => .tup (frzCL c x l)
  | .undef => .undef
def frzK (c : Nat) (x : D) : KL → KL
  | [] => []
  | (s, v) :: K => (s, v.frz c x) :: frzK c x K
def Ch.frz (c : Nat) (x : D) : Ch → Ch
  | .cells l => .cells (frzL c x l)
  | ch => ch
def frzB (c : Nat) (x : D) : BL → BL
  | [] => []
  | (b, ch) :: B => match Nat.beq b c with
    | true => frzB c x B
    | false => (b, ch.frz c x) :: frzB c x B
theorem look_frzK {c : Nat} {x : D} : ∀ (K : KL) (s : Nat), look (frzK c x K) s = (look K s).frz c x
  | [], s => rfl
  | (t, v) :: K, s => by
    simp only [frzK]
    rw [look_cons, look_cons, look_frzK K s]
    split <;> rfl
theorem lookB_frzB {c : Nat} {x : D} : ∀ (B : BL) (d : Nat), lookB (frzB c x B) d = if c = d then none else (lookB B d).map (·.frz c x)
  | [], d => by simp [frzB, lookB]
  | (b, ch) :: B, d => by
    unfold frzB
    split
    · rename_i e
      have := Nat.eq_of_beq_eq_true e
      subst this
      rw [lookB_frzB B d, lookB_cons]
      split <;> rfl
    · rename_i e
      have hne : b ≠ c := fun h => by subst h; simp at e
      rw [lookB_cons, lookB_cons, lookB_frzB B d]
      by_cases h : b = d
      · subst h; rw [if_pos rfl, if_pos rfl, if_neg (Ne.symm hne)]; rfl
      · rw [if_neg h, if_neg h]
section
variable {I I' : Nat → Prop} {c : Nat} {x : D}
theorem DenS.frz (he : Ext I w I' w) (hx : Den I' w x (ρ c).hdr) (s : S1) (v : Value) (h : DenS ρ I w s v) : DenS ρ I' w (s.frz c x) v := by
  cases s with
  | own b =>
    unfold S1.frz
    simp only
    split
    · rename_i e
      have := Nat.eq_of_beq_eq_true e
      subst this
      rw [show v = _ from h]
      exact hx
    · exact h
  | d y => exact DenS.mono (ρ' := ρ) he (.d y) v (fun _ _ => rfl) h
  | el u y o => exact DenS.mono (ρ' := ρ) he (.el u y o) v (fun _ _ => rfl) h
  | clo f l => exact DenS.mono (ρ' := ρ) he (.clo f l) v (fun _ _ => rfl) h
  | _ => exact h
theorem DenL.frz (he : Ext I w I' w) (hx : Den I' w x (ρ c).hdr) : ∀ (l : List S1) (vs : List Value), DenL ρ I w l vs → DenL ρ I' w (frzL c x l) vs
  | [], _, h => h
  | s :: l, _, ⟨v, r, e, h1, h2⟩ => ⟨v, r, e, DenS.frz he hx s v h1, DenL.frz he hx l r h2⟩
theorem DenC.frz (he : Ext I w I' w) (hx : Den I' w x (ρ c).hdr) (s : SC) (v : Value) (h : DenC ρ I w s v) : DenC ρ I' w (s.frz c x) v := by
  cases s with
  | one s => exact DenS.frz he hx s v h
  | agg l => obtain ⟨vs, e, h⟩ := h; exact ⟨vs, e, DenL.frz he hx l vs h⟩
theorem DenCL.frz (he : Ext I w I' w) (hx : Den I' w x (ρ c).hdr) : ∀ (l : List SC) (vs : List Value), DenCL ρ I w l vs → DenCL ρ I' w (frzCL c x l) vs
  | [], _, h => h
  | s :: l, _, ⟨v, r, e, h1, h2⟩ => ⟨v, r, e, DenC.frz he hx s v h1, DenCL.frz he hx l r h2⟩
theorem DenV.frz (he : Ext I w I' w) (hx : Den I' w x (ρ c).hdr) (s : SV) (v : Value) (h : DenV ρ I w s v) : DenV ρ I' w (s.frz c x) v := by
  cases s with
  | c s => exact DenC.frz he hx s v h
  | tup l => obtain ⟨vs, e, h⟩ := h; exact ⟨vs, e, DenCL.frz he hx l vs h⟩
  | undef => exact h
end
theorem Mem.frz (hM : Mem ids C B ρ F w) {c : Nat} {e : TypeId} {u : U} {xs : List (El u)} (hc : lookB B c = some (.row e u xs)) :
    Mem ids C (frzB c (.lst u xs) B) ρ F w ∧ Ext (Imm C B F w) w (Imm C (frzB c (.lst u xs) B) F w) w ∧ Den (Imm C (frzB c (.lst u xs) B) F w) w (.lst u xs) (ρ c).hdr := by
  have hh := hM.holds c _ hc
  have hI1 : ∀ b, Imm C B F w b → Imm C (frzB c (.lst u xs) B) F w b := fun b ⟨h1, h2, h3⟩ => ⟨h1, h2, fun d ch hd hb => by
    rw [lookB_frzB] at hd
    split at hd
    · cases hd
    · obtain ⟨ch', hd', _⟩ := Option.map_eq_some_iff.1 hd
      exact h3 d ch' hd' hb⟩
  have hI2 : ∀ b, F c b → Imm C (frzB c (.lst u xs) B) F w b := fun b hb => by
    obtain ⟨h1, h2⟩ := hM.own c _ hc b hb
    refine ⟨h1, .inr h2, fun d ch hd hb' => ?_⟩
    rw [lookB_frzB] at hd
    split at hd
    · cases hd
    · rename_i hne
      obtain ⟨ch', hd', _⟩ := Option.map_eq_some_iff.1 hd
      exact hM.disj c d _ ch' b hc hd' hne hb hb'
  have hden : Den (Imm C (frzB c (.lst u xs) B) F w) w (.lst u xs) (ρ c).hdr := row_data hh hI1 hI2
  have hE : Ext (Imm C B F w) w (Imm C (frzB c (.lst u xs) B) F w) w := fun b hb => ⟨hI1 b hb, rfl⟩
  refine ⟨⟨hM.fr, fun d ch hd => ?_, fun d ch hd => ?_, fun d d' ch ch' b hd hd' => ?_, hM.keep⟩, hE, hden⟩
  · rw [lookB_frzB] at hd
    split at hd
    · cases hd
    · obtain ⟨ch', hd', rfl⟩ := Option.map_eq_some_iff.1 hd
      have := hM.holds d ch' hd'
      cases ch' with
      | cells l =>
        obtain ⟨h1, vs, T, h2, h3⟩ := this
        exact ⟨h1, vs, T, h2, DenL.frz hE hden l vs h3⟩
      | row e u xs => exact Holds.stable hE (fun _ _ => rfl) (Nat.le_refl _) _ (fun _ _ => rfl) this
      | obj o => exact Holds.stable hE (fun _ _ => rfl) (Nat.le_refl _) _ (fun _ _ => rfl) this
  · rw [lookB_frzB] at hd
    split at hd
    · cases hd
    · obtain ⟨ch', hd', _⟩ := Option.map_eq_some_iff.1 hd
      exact hM.own d ch' hd'
  · rw [lookB_frzB] at hd hd'
    split at hd
    · cases hd
    · split at hd'
      · cases hd'
      · obtain ⟨c1, h1, _⟩ := Option.map_eq_some_iff.1 hd
        obtain ⟨c2, h2, _⟩ := Option.map_eq_some_iff.1 hd'
        exact hM.disj d d' c1 c2 b h1 h2
/-- A row of the call's own is data from now on. -/
theorem Le.frz (c : Nat) {e : TypeId} {u : U} {xs : List (El u)} (hc : lookB B c = some (.row e u xs)) : Le ids K B (frzK c (.lst u xs) K) (frzB c (.lst u xs) B) := by
  rintro N C a w ⟨h1, h2, ρ, F, hM, hS⟩
  obtain ⟨hM', hE, hd⟩ := hM.frz hc
  exact ⟨h1, h2, ρ, F, hM', fun s => by rw [look_frzK]; exact DenV.frz hE hd _ _ (hS s)⟩

/-! ### nothing is an empty row -/
def nilK (s c : Nat) (K : KL) : KL := (s, .c (.one (.own c))) :: K
theorem Le.nil (s c : Nat) (e : TypeId) (u : U) (hs : look K s = .c (.one .nils)) (hf : freshB ids K B c = true) : Le ids K B ((s, .c (.one (.own c))) :: K) ((c, .row e u []) :: B) := by
  rintro N C a w ⟨h1, h2, ρ, F, hM, hS⟩
  have hfr := fresh_of hf
  obtain ⟨hM', hE⟩ := hM.make (ch := .row e u []) (w' := w) hf (Below.refl _ _) ⟨0, none, 0, 0⟩ (fun _ => False) (fun b h => h.elim) (fun I _ _ => ⟨fun b => by simp [Pl.hdr, Value.ownBlock], fun b hb => by simp [Pl.hdr, Value.ownBlock] at hb, [], World.ownsRow_nil _ _ _ _, RecsU.nil u⟩)
  refine ⟨h1, h2, _, _, hM', fun t => ?_⟩
  rw [look_cons]
  split
  · rename_i e
    subst e
    have := hS s
    rw [hs] at this
    rw [show a.tmps.getD s undef = .slice none 0 0 from this]
    simp only [DenV, DenC, DenS, upd_same, Pl.hdr]
  · exact DenV.mono hE _ _ (fun d hd => upd_other _ _ (fun e => by subst e; rw [hfr.1 t] at hd; cases hd)) (hS t)
/-- .. in a block's cell. -/
theorem Le.nilc (b j c : Nat) (e : TypeId) (u : U) {l : List S1} (hb : lookB B b = some (.cells l)) (hj : l[j]? = some .nils) (hf : freshB ids K B c = true) : Le ids K B K ((b, .cells (l.set j (.own c))) :: (c, .row e u []) :: B) := by
  rintro N C a w ⟨h1, h2, ρ, F, hM, hS⟩
  have hfr := fresh_of hf
  obtain ⟨hM', hE⟩ := hM.make (ch := .row e u []) (w' := w) hf (Below.refl _ _) ⟨0, none, 0, 0⟩ (fun _ => False) (fun b h => h.elim) (fun I _ _ => ⟨fun b => by simp [Pl.hdr, Value.ownBlock], fun b hb => by simp [Pl.hdr, Value.ownBlock] at hb, [], World.ownsRow_nil _ _ _ _, RecsU.nil u⟩)
  have hbc : c ≠ b := fun e => by subst e; rw [hfr.2.1] at hb; cases hb
  have hb' : lookB ((c, Ch.row e u []) :: B) b = some (.cells l) := by rw [lookB_cons, if_neg hbc]; exact hb
  have hh := hM'.holds b _ hb'
  obtain ⟨hM2, hE2⟩ := hM'.turn (ch := .cells (l.set j (.own c))) hb' (Fr.refl _ _) (fun I he => by
    obtain ⟨g1, vs, T, g2, g3⟩ := hh
    refine ⟨g1, vs, T, g2, ?_⟩
    have g3 := DenL.mono (ρ' := upd ρ c ⟨0, none, 0, 0⟩) he l vs (fun _ _ => rfl) g3
    have key : ∀ (l : List S1) (vs : List Value) (j : Nat), l[j]? = some .nils → DenL (upd ρ c ⟨0, none, 0, 0⟩) I w l vs → DenL (upd ρ c ⟨0, none, 0, 0⟩) I w (l.set j (.own c)) vs := fun l => by
      induction l with
      | nil => intro vs j hj; simp at hj
      | cons s l ih =>
        rintro _ j hj ⟨v, r, rfl, q1, q2⟩
        match j with
        | 0 =>
          simp only [List.getElem?_cons_zero, Option.some.injEq] at hj
          subst hj
          refine ⟨v, r, rfl, ?_, q2⟩
          rw [show v = .slice none 0 0 from q1]
          simp only [DenS, upd_same, Pl.hdr]
        | j + 1 => exact ⟨v, r, rfl, q1, ih r j (by simpa using hj) q2⟩
    exact key l vs j hj g3)
  refine ⟨h1, h2, _, _, hM2, fun t => ?_⟩
  exact DenV.mono (hE.trans hE2) _ _ (fun d hd => upd_other _ _ (fun e => by subst e; rw [hfr.1 t] at hd; cases hd)) (hS t)

/-! ### another number for a block -/
def capsRen (c d : Nat) : List Cap → List Cap
  | [] => []
  | .p b o :: l => (match Nat.beq b c with
    | true => .p d o
    | false => .p b o) :: capsRen c d l
  | .d x :: l => .d x :: capsRen c d l
def S1.ren (c d : Nat) : S1 → S1
  | .ptr b o => match Nat.beq b c with
    | true => .ptr d o
    | false => .ptr b o
  | .own b => match Nat.beq b c with
    | true => .own d
    | false => .own b
  | .rp b s i o => match Nat.beq b c with
    | true => .rp d s i o
    | false => .rp b s i o
  | .os b s o n => match Nat.beq b c with
    | true => .os d s o n
    | false => .os b s o n
  | .mp b => match Nat.beq b c with
    | true => .mp d
    | false => .mp b
  | .clo f l => .clo f (capsRen c d l)
  | s => s
def renL (c d : Nat) : List S1 → List S1
  | [] => []
  | s :: l => s.ren c d :: renL c d l
def SC.ren (c d : Nat) : SC → SC
  | .one s => .one (s.ren c d)
  | .agg l => .agg (renL c d l)
def renCL (c d : Nat) : List SC → List SC
  | [] => []
  | s :: l => s.ren c d :: renCL c d l
def SV.ren (c d : Nat) : SV → SV
  | .c s => .c (s.ren c d)
  | .tup l => .tup (renCL c d l)
  | .undef => .undef
def renK (c d : Nat) : KL → KL
  | [] => []
  | (s, v) :: K => (s, v.ren c d) :: renK c d K
def Ch.ren (c d : Nat) : Ch → Ch
  | .cells l => .cells (renL c d l)
  | ch => ch
def renB (c d : Nat) : BL → BL
  | [] => []
  | (b, ch) :: B => match Nat.beq b c with
    | true => (d, ch.ren c d) :: renB c d B
    | false => (b, ch.ren c d) :: renB c d B
theorem look_renK {c d : Nat} : ∀ (K : KL) (s : Nat), look (renK c d K) s = (look K s).ren c d
  | [], s => rfl
  | (t, v) :: K, s => by
    simp only [renK]
    rw [look_cons, look_cons, look_renK K s]
    split <;> rfl
theorem lookB_renB {c d : Nat} : ∀ (B : BL), lookB B d = none → ∀ b, lookB (renB c d B) b = if b = d then (lookB B c).map (·.ren c d) else if b = c then none else (lookB B b).map (·.ren c d)
  | [], _, b => by simp [renB, lookB]
  | (t, ch) :: B, hd, b => by
    rw [lookB_cons] at hd
    have htd : t ≠ d := fun e => by rw [if_pos e] at hd; cases hd
    rw [if_neg htd] at hd
    have ih := lookB_renB (c := c) B hd b
    unfold renB
    split
    · rename_i e
      have := Nat.eq_of_beq_eq_true e
      subst this
      rw [lookB_cons, lookB_cons, if_pos rfl, ih, lookB_cons]
      by_cases h1 : b = d
      · subst h1; simp
      · rw [if_neg (Ne.symm h1), if_neg h1, if_neg h1]
        by_cases h2 : b = t
        · rw [if_pos h2, if_pos h2]
        · rw [if_neg h2, if_neg h2, if_neg (Ne.symm h2)]
    · rename_i e
      have hne : t ≠ c := fun h => by subst h; simp at e
      rw [lookB_cons, ih, lookB_cons, lookB_cons, if_neg hne]
      by_cases h1 : b = d
      · subst h1; rw [if_neg htd, if_pos rfl, if_pos rfl]
      · rw [if_neg h1, if_neg h1]
        by_cases h2 : b = c
        · subst h2; rw [if_neg hne, if_pos rfl, if_pos rfl]
        · rw [if_neg h2, if_neg h2]
          by_cases h3 : t = b
          · rw [if_pos h3, if_pos h3]; rfl
          · rw [if_neg h3, if_neg h3]
section
variable {I : Nat → Prop} {c d : Nat}
theorem DenCaps.ren : ∀ (l : List Cap) (vs : List Value), capsHave d l = false → DenCaps ρ I w l vs → DenCaps (upd ρ d (ρ c)) I w (capsRen c d l) vs
  | [], _, _, h => h
  | .p b o :: l, _, hd, ⟨v, r, e, h1, h2⟩ => by
    simp only [capsHave, Bool.or_eq_false_iff] at hd
    refine ⟨v, r, e, ?_, DenCaps.ren l r hd.2 h2⟩
    split
    · rename_i e
      have := Nat.eq_of_beq_eq_true e
      subst this
      simp only [DenCap, upd_same] at h1 ⊢
      exact h1
    · simp only [DenCap] at h1 ⊢
      rw [upd_other _ _ (fun e => by subst e; simp at hd)]
      exact h1
  | .d x :: l, _, hd, ⟨v, r, e, h1, h2⟩ => ⟨v, r, e, h1, DenCaps.ren l r (by simpa [capsHave] using hd) h2⟩
theorem DenS.ren (s : S1) (v : Value) (hd : s.has d = false) (h : DenS ρ I w s v) : DenS (upd ρ d (ρ c)) I w (s.ren c d) v := by
  have key : ∀ b, Nat.beq b d = false → (match Nat.beq b c with | true => upd ρ d (ρ c) d = ρ b | false => upd ρ d (ρ c) b = ρ b) := fun b hb => by
    split
    · rename_i e
      rw [upd_same, Nat.eq_of_beq_eq_true e]
    · exact upd_other _ _ (fun e => by subst e; simp at hb)
  cases s with
  | ptr b o =>
    have := key b hd
    unfold S1.ren
    simp only
    split <;> rename_i e <;> rw [e] at this <;> simp only at this <;> simp only [DenS] at h ⊢ <;> rw [this] <;> exact h
  | own b =>
    have := key b hd
    unfold S1.ren
    simp only
    split <;> rename_i e <;> rw [e] at this <;> simp only at this <;> simp only [DenS] at h ⊢ <;> rw [this] <;> exact h
  | rp b s i o =>
    have := key b hd
    unfold S1.ren
    simp only
    split <;> rename_i e <;> rw [e] at this <;> simp only at this <;> simp only [DenS] at h ⊢ <;> rw [this] <;> exact h
  | os b s o n =>
    have := key b hd
    unfold S1.ren
    simp only
    split <;> rename_i e <;> rw [e] at this <;> simp only at this <;> simp only [DenS] at h ⊢ <;> rw [this] <;> exact h
  | mp b =>
    have := key b hd
    unfold S1.ren
    simp only
    split <;> rename_i e <;> rw [e] at this <;> simp only at this <;> simp only [DenS] at h ⊢ <;> rw [this] <;> exact h
  | d y => exact h
  | el u y o => exact h
  | clo f l => obtain ⟨vs, e, h⟩ := h; exact ⟨vs, e, DenCaps.ren l vs hd h⟩
  | nils => exact h
  | raw v => exact h
  | any => exact h
theorem DenL.ren : ∀ (l : List S1) (vs : List Value), hasL d l = false → DenL ρ I w l vs → DenL (upd ρ d (ρ c)) I w (renL c d l) vs
  | [], _, _, h => h
  | s :: l, _, hd, ⟨v, r, e, h1, h2⟩ => by
    simp only [hasL, Bool.or_eq_false_iff] at hd
    exact ⟨v, r, e, DenS.ren s v hd.1 h1, DenL.ren l r hd.2 h2⟩
theorem DenC.ren (s : SC) (v : Value) (hd : s.has d = false) (h : DenC ρ I w s v) : DenC (upd ρ d (ρ c)) I w (s.ren c d) v := by
  cases s with
  | one s => exact DenS.ren s v hd h
  | agg l => obtain ⟨vs, e, h⟩ := h; exact ⟨vs, e, DenL.ren l vs hd h⟩
theorem DenCL.ren : ∀ (l : List SC) (vs : List Value), hasCL d l = false → DenCL ρ I w l vs → DenCL (upd ρ d (ρ c)) I w (renCL c d l) vs
  | [], _, _, h => h
  | s :: l, _, hd, ⟨v, r, e, h1, h2⟩ => by
    simp only [hasCL, Bool.or_eq_false_iff] at hd
    exact ⟨v, r, e, DenC.ren s v hd.1 h1, DenCL.ren l r hd.2 h2⟩
theorem DenV.ren (s : SV) (v : Value) (hd : s.has d = false) (h : DenV ρ I w s v) : DenV (upd ρ d (ρ c)) I w (s.ren c d) v := by
  cases s with
  | c s => exact DenC.ren s v hd h
  | tup l => obtain ⟨vs, e, h⟩ := h; exact ⟨vs, e, DenCL.ren l vs hd h⟩
  | undef => exact h
end
/-- Another number. -/
theorem Le.ren (c d : Nat) (hf : freshB ids K B d = true) : Le ids K B (renK c d K) (renB c d B) := by
  rintro N C a w ⟨h1, h2, ρ, F, hM, hS⟩
  obtain ⟨f1, f2, f3, f4⟩ := fresh_of hf
  have hlk := lookB_renB (c := c) (d := d) B f2
  have back : ∀ b ch, lookB (renB c d B) b = some ch → ∃ b0 ch0, lookB B b0 = some ch0 ∧ ch = ch0.ren c d ∧ upd F d (F c) b = F b0 ∧ upd ρ d (ρ c) b = ρ b0 ∧ ((b = d ∧ b0 = c) ∨ (b ≠ d ∧ b ≠ c ∧ b0 = b)) := fun b ch hb => by
    rw [hlk] at hb
    split at hb
    · rename_i e
      subst e
      obtain ⟨ch0, h, rfl⟩ := Option.map_eq_some_iff.1 hb
      exact ⟨c, ch0, h, rfl, upd_same _ _ _, upd_same _ _ _, .inl ⟨rfl, rfl⟩⟩
    · rename_i e
      split at hb
      · cases hb
      · rename_i e2
        obtain ⟨ch0, h, rfl⟩ := Option.map_eq_some_iff.1 hb
        exact ⟨b, ch0, h, rfl, upd_other _ _ e, upd_other _ _ e, .inr ⟨e, e2, rfl⟩⟩
  have hE : Ext (Imm C B F w) w (Imm C (renB c d B) (upd F d (F c)) w) w := fun b ⟨q1, q2, q3⟩ => ⟨⟨q1, q2, fun e ch he hF => by
    obtain ⟨b0, ch0, g1, _, g2, _⟩ := back e ch he
    rw [g2] at hF
    exact q3 b0 ch0 g1 hF⟩, rfl⟩
  refine ⟨h1, h2, upd ρ d (ρ c), upd F d (F c), ⟨hM.fr, fun b ch hb => ?_, fun b ch hb x hx => ?_, fun b b' ch ch' x hb hb' hne hx hx' => ?_, fun e he => ?_⟩, fun s => ?_⟩
  · obtain ⟨b0, ch0, g1, rfl, g2, g3, _⟩ := back b ch hb
    rw [g2, g3]
    have := hM.holds b0 ch0 g1
    have hno := f3 b0 ch0 g1
    cases ch0 with
    | cells l =>
      obtain ⟨k1, vs, T, k2, k3⟩ := this
      exact ⟨k1, vs, T, k2, DenL.mono hE _ _ (fun _ _ => rfl) (DenL.ren l vs hno k3)⟩
    | row e u xs => exact Holds.stable (ρ' := ρ) hE (fun _ _ => rfl) (Nat.le_refl _) (.row e u xs) (fun _ _ => rfl) this
    | obj o => exact Holds.stable (ρ' := ρ) hE (fun _ _ => rfl) (Nat.le_refl _) (.obj o) (fun _ _ => rfl) this
  · obtain ⟨b0, ch0, g1, _, g2, _⟩ := back b ch hb
    rw [g2] at hx
    exact hM.own b0 ch0 g1 x hx
  · obtain ⟨b0, ch0, g1, _, g2, _, g4⟩ := back b ch hb
    obtain ⟨b1, ch1, k1, _, k2, _, k4⟩ := back b' ch' hb'
    rw [g2] at hx
    rw [k2] at hx'
    refine hM.disj b0 b1 ch0 ch1 x g1 k1 (fun e => ?_) hx hx'
    subst e
    rcases g4 with ⟨e1, e2⟩ | ⟨e1, e2, e3⟩ <;> rcases k4 with ⟨e4, e5⟩ | ⟨e4, e5, e6⟩
    · exact hne (e1.trans e4.symm)
    · exact e5 (e6.symm.trans e2)
    · exact e2 (e3.symm.trans e5)
    · exact hne (e3.symm.trans e6)
  · rw [upd_other _ _ (fun e' => by subst e'; exact f4 he)]
    exact hM.keep e he
  · rw [look_renK]
    exact DenV.mono hE _ _ (fun _ _ => rfl) (DenV.ren _ _ (f1 s) (hS s))
end
/-- From a stop on: in another state. -/
theorem TrQ.go {P : Program} {tt : Tr} {N : Nat} {ids : List Nat} {K K' : KL} {B B' : BL} {Q : Ex → KL → BL → Prop} {c : Code} (hP : TblOK P tt) (hD : DrawOK P tt N ids) (stops : List Nat) (hc : codeOK P N c = true) (h : Le ids K B K' B') (ht : vc P tt N ids stops c K' B' Q) : TrQ P N ids c K B Q :=
  TrQ.le h (vc_sound hP hD stops c K' B' Q hc ht)
end Go.Proofs.Ythghcdddambaeaa
