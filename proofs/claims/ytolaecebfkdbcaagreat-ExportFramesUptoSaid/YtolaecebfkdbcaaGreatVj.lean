/-
  Blocks put together into one object, whose places are told by marks; and taken apart again.
-/
import Derived.Test.YtolaecebfkdbcaaGreatVi
import Derived.Test.YtolaecebfkdbcaaGreatCa
set_option linter.unusedVariables false
set_option linter.unusedSimpArgs false
namespace Go.Proofs.YtolaecebfkdbcaaGreat
open Go.RowKit
/-- A mark: the block d lies at b. -/
def isAt (b : Nat) (q : Pl) : Ob where
  R := fun I F w p => q.blk = b ∧ ∀ x, ¬ F x
  stable := fun _ _ _ _ _ _ h _ _ _ => h
/-- What a block has depends on where it lies by the block's number alone. -/
def BlkOnly (ch : Ch) : Prop := ∀ (ρ ρ' : Nat → Pl) (I F : Nat → Prop) (w : World) (p p' : Pl), (∀ c, ch.has c = true → (ρ' c).blk = (ρ c).blk) → p'.blk = p.blk → Holds ρ I F w p ch → Holds ρ' I F w p' ch
def blkS : S1 → Bool
  | .own _ => false
  | .os _ _ _ _ => false
  | _ => true
theorem DenCaps.blk {ρ ρ' : Nat → Pl} {I : Nat → Prop} {w : World} : ∀ (l : List Cap) (vs : List Value), (∀ c, capsHave c l = true → (ρ' c).blk = (ρ c).blk) → DenCaps ρ I w l vs → DenCaps ρ' I w l vs
  | [], _, _, h => h
  | .p b o :: l, _, hρ, ⟨v, r, e, h1, h2⟩ => ⟨v, r, e, (by have e := hρ b (by simp [capsHave]); simp only [DenCap] at *; rw [e]; exact h1), DenCaps.blk l r (fun c hc => hρ c (by simp [capsHave, hc])) h2⟩
  | .d x :: l, _, hρ, ⟨v, r, e, h1, h2⟩ => ⟨v, r, e, h1, DenCaps.blk l r (fun c hc => hρ c (by simpa [capsHave] using hc)) h2⟩
theorem DenS.blk {ρ ρ' : Nat → Pl} {I : Nat → Prop} {w : World} (s : S1) (v : Value) (hb : blkS s = true) (hρ : ∀ c, s.has c = true → (ρ' c).blk = (ρ c).blk) (h : DenS ρ I w s v) : DenS ρ' I w s v := by
  cases s with
  | ptr c off =>
    have e := hρ c (by simp [S1.has, Nat.beq_eq])
    simp only [DenS] at *
    rw [e]; exact h
  | rp c s i off =>
    have e := hρ c (by simp [S1.has, Nat.beq_eq])
    simp only [DenS] at *
    rw [e]; exact h
  | mp c =>
    have e := hρ c (by simp [S1.has, Nat.beq_eq])
    simp only [DenS] at *
    rw [e]; exact h
  | clo f l => obtain ⟨vs, e, h⟩ := h; exact ⟨vs, e, DenCaps.blk l vs hρ h⟩
  | own c => cases hb
  | os c s off n => cases hb
  | d x => exact h
  | el u x off => exact h
  | nils => exact h
  | raw u => exact h
  | any => trivial
theorem DenL.blk {ρ ρ' : Nat → Pl} {I : Nat → Prop} {w : World} : ∀ (l : List S1) (vs : List Value), l.all blkS = true → (∀ c, hasL c l = true → (ρ' c).blk = (ρ c).blk) → DenL ρ I w l vs → DenL ρ' I w l vs
  | [], _, _, _, h => h
  | s :: l, _, hb, hρ, ⟨v, r, e, h1, h2⟩ => by
    rw [List.all_cons, Bool.and_eq_true] at hb
    exact ⟨v, r, e, DenS.blk s v hb.1 (fun c hc => hρ c (by simp [hasL, hc])) h1, DenL.blk l r hb.2 (fun c hc => hρ c (by simp [hasL, hc])) h2⟩
theorem BlkOnly.cells {l : List S1} (hb : l.all blkS = true) : BlkOnly (.cells l) := by
  rintro ρ ρ' I F w p p' hρ hp ⟨h1, vs, T, h2, h3⟩
  exact ⟨fun b => by rw [hp]; exact h1 b, vs, T, by rw [hp]; exact h2, DenL.blk l vs hb hρ h3⟩
theorem BlkOnly.map {ku vu : U} {es : List (El ku × El vu)} : BlkOnly (.map ku vu es) := by
  rintro ρ ρ' I F w p p' hρ hp ⟨h1, ents, clock, h2, h3, h4⟩
  exact ⟨fun b => by rw [hp]; exact h1 b, ents, clock, by rw [hp]; exact h2, h3, h4⟩
theorem BlkOnly.pool {L : List (Nat × Ob)} : BlkOnly (.obj (.pool L)) := fun _ _ _ _ _ _ _ _ _ h => h
theorem BlkOnly.grp {c : Nat} {Bl : BL} (h : ∀ d ch, lookB Bl d = some ch → BlkOnly ch) : BlkOnly (.obj (.grp c Bl)) := by
  rintro ρ0 ρ1 I F w p p' _ hp ⟨ρ, G, h1, h2, h3, h4⟩
  have hb : ∀ d, (upd ρ c p' d).blk = (ρ d).blk := fun d => by
    by_cases e : d = c
    · subst e; rw [upd_same, hp, h1]
    · rw [upd_other _ _ e]
  exact ⟨upd ρ c p', G, upd_same .., fun d ch hd => h d ch hd ρ (upd ρ c p') _ _ _ (ρ d) (upd ρ c p' d) (fun e _ => hb e) (hb d) (h2 d ch hd), h3, h4⟩
def blkB : BL → Prop
  | [] => True
  | (_, ch) :: Bl => BlkOnly ch ∧ blkB Bl
theorem blkB_get : ∀ {Bl : BL}, blkB Bl → ∀ d ch, lookB Bl d = some ch → BlkOnly ch
  | [], _, d, ch, hd => by cases hd
  | (e, x) :: Bl, h, d, ch, hd => by
    rw [lookB_cons] at hd
    split at hd
    · injection hd with hd; subst hd; exact h.1
    · exact blkB_get h.2 d ch hd
/-- Blocks at places that are told. -/
def grpXR (Bl : BL) (bs : Nat → Nat) (I F : Nat → Prop) (w : World) : Prop :=
  ∃ (ρ : Nat → Pl) (G : Nat → Nat → Prop), (∀ d ch, lookB Bl d = some ch → (ρ d).blk = bs d) ∧ (∀ d ch, lookB Bl d = some ch → Holds ρ I (G d) w (ρ d) ch) ∧
    (∀ d d' ch ch' b, lookB Bl d = some ch → lookB Bl d' = some ch' → d ≠ d' → G d b → ¬ G d' b) ∧ ∀ b, F b ↔ ∃ d ch, lookB Bl d = some ch ∧ G d b
def Ob.grpX (Bl : BL) (bs : Nat → Nat) : Ob where
  R := fun I F w _ => grpXR Bl bs I F w
  stable := fun I F w I' w' p ⟨ρ, G, h0, h2, h3, h4⟩ he hF hz => ⟨ρ, G, h0, fun d ch hd => Holds.stable he (fun b hb => hF b ((h4 b).2 ⟨d, ch, hd, hb⟩)) hz ch (fun _ _ => rfl) (h2 d ch hd), h3, h4⟩
section
variable {ids : List Nat} {K : KL} {B : BL}
theorem LeX.mark (d m : Nat) (hm : freshB ids K B m = true) (hne : d ≠ m) : LeX ids K B (fun _ : Nat => K) (fun b => (m, .dep d (isAt b)) :: B) := by
  rintro N C a w ⟨hn, hd, ρ, F, hM, hS⟩
  have hfr := fresh_of hm
  obtain ⟨hM', hE⟩ := hM.make (ch := .dep d (isAt (ρ d).blk)) (w' := w) hm (Below.refl _ _) ⟨0, none, 0, 0⟩ (fun _ => False) (fun _ h => h.elim) (fun I _ _ => by
    show (isAt (ρ d).blk (upd ρ m _ d)).R I _ w _
    rw [upd_other _ _ hne]
    exact ⟨rfl, fun _ h => h⟩)
  exact ⟨(ρ d).blk, hn, hd, _, _, hM', hS.mono hE fun s c hc => upd_other _ _ (fun e => by subst e; rw [hfr.1 s] at hc; cases hc)⟩
/-- A number that nobody uses is laid at b. -/
theorem Le.place (d m b : Nat) (hd : freshB ids K B d = true) (hm : freshB ids K B m = true) (hne : d ≠ m) : Le ids K B K ((m, .dep d (isAt b)) :: B) := by
  rintro N C a w ⟨hn, hdf, ρ, F, hM, hS⟩
  have f1 := fresh_of hd
  have f2 := fresh_of hm
  obtain ⟨hM', hE⟩ := hM.step (B' := (m, .dep d (isAt b)) :: B) (ρ' := upd ρ d ⟨b, none, 0, 0⟩) (F' := upd F m fun _ => False) (w' := w) (fun c => c = m ∨ c = d) (fun c => c = d) (Fr.refl _ _)
    (fun c ch hc hm => by
      rw [lookB_cons, if_neg (fun e => hm (.inl e.symm))] at hc
      exact hc)
    (fun c hc => upd_other _ _ hc) (fun c hc => upd_other _ _ (fun e => hc (.inl e))) (fun c hc e => f1.2.2.2 (e ▸ hc)) (fun c hc => .inr hc)
    (fun c ch hc _ j hj e => by subst e; rw [f1.2.2.1 c ch hc] at hj; cases hj)
    (fun c ch hc hm hE => by
      rw [lookB_cons] at hc
      split at hc
      · rename_i e
        subst e
        injection hc with hc
        subst hc
        rw [upd_same]
        show (isAt b (upd ρ d _ d)).R _ _ w _
        rw [upd_same]
        exact ⟨rfl, fun _ h => h⟩
      · rename_i e
        rcases hm with hm | hm
        · exact absurd hm.symm e
        · rw [hm, f1.2.1] at hc; cases hc)
    (fun c ch hc hm x hx => by
      rw [lookB_cons] at hc
      split at hc
      · rename_i e
        subst e
        rw [upd_same] at hx
        exact hx.elim
      · rename_i e
        rcases hm with hm | hm
        · exact absurd hm.symm e
        · rw [hm, f1.2.1] at hc; cases hc)
    (fun c c' ch ch' x hc hc' hm hm' hne' hx => by
      have key : ∀ c ch, lookB ((m, Ch.dep d (isAt b)) :: B) c = some ch → (c = m ∨ c = d) → c = m := fun c ch hc hm => by
        rcases hm with hm | hm
        · exact hm
        · rw [lookB_cons, if_neg (fun e => hne (hm.symm.trans e.symm)), hm, f1.2.1] at hc
          cases hc
      exact absurd ((key c ch hc hm).trans (key c' ch' hc' hm').symm) hne')
  exact ⟨hn, hdf, _, _, hM', hS.mono hE fun s c hc => upd_other _ _ (fun e => by subst e; rw [f1.1 s] at hc; cases hc)⟩
/-- The marks of these blocks are there. -/
def marksB (B : BL) (ms bs : Nat → Nat) : BL → Prop
  | [] => True
  | (d, _) :: Bl => lookB B (ms d) = some (.dep d (isAt (bs d))) ∧ marksB B ms bs Bl
theorem marksB_get {ms bs : Nat → Nat} : ∀ {Bl : BL}, marksB B ms bs Bl → ∀ {d ch}, lookB Bl d = some ch → lookB B (ms d) = some (.dep d (isAt (bs d)))
  | [], _, d, ch, hd => by cases hd
  | (e, x) :: Bl, h, d, ch, hd => by
    rw [lookB_cons] at hd
    split at hd
    · rename_i e; subst e; exact h.1
    · exact marksB_get h.2 hd
/-- Blocks with marks become one object. -/
theorem Le.closeX (g : Nat) (Bl : BL) (ms bs : Nat → Nat) (hB : subB B Bl) (hm : marksB B ms bs Bl) (hg : lookB B g = none) : Le ids K B K ((g, .obj (.grpX Bl bs)) :: dropBs (keysB Bl) B) := by
  rintro N C a w ⟨hn, hd, ρ, F, hM, hS⟩
  have hl : ∀ {d ch}, lookB Bl d = some ch → lookB B d = some ch := fun {d ch} h => subB_get hB h
  have hgk : g ∉ keysB Bl := fun h => by obtain ⟨ch, h⟩ := keysB_mem.1 h; rw [hl h] at hg; cases hg
  have key : ∀ d ch, lookB ((g, Ch.obj (.grpX Bl bs)) :: dropBs (keysB Bl) B) d = some ch → (d = g ∨ d ∈ keysB Bl) → d = g ∧ ch = .obj (.grpX Bl bs) := fun d ch hd hm => by
    rw [lookB_cons] at hd
    split at hd
    · rename_i e; injection hd with hd; exact ⟨e.symm, hd.symm⟩
    · rename_i e
      rcases hm with hm | hm
      · exact absurd hm.symm e
      · rw [lookB_dropBs, if_pos hm] at hd; cases hd
  obtain ⟨hM', hE⟩ := hM.step (B' := (g, .obj (.grpX Bl bs)) :: dropBs (keysB Bl) B) (ρ' := ρ) (F' := upd F g (fun x => ∃ d ch, lookB Bl d = some ch ∧ F d x)) (w' := w) (fun d => d = g ∨ d ∈ keysB Bl) (fun _ => False) (Fr.refl _ _)
    (fun d ch hd hm => by
      rw [lookB_cons, if_neg (fun e => hm (.inl e.symm)), lookB_dropBs, if_neg (fun h => hm (.inr h))] at hd
      exact hd)
    (fun _ _ => rfl) (fun d hm => upd_other _ _ (fun e => hm (.inl e))) (fun _ _ h => h) (fun _ h => h.elim) (fun _ _ _ _ _ _ h => h)
    (fun d ch hd hm' hE => by
      obtain ⟨rfl, rfl⟩ := key d ch hd hm'
      rw [upd_same]
      refine ⟨ρ, F, fun d ch h => ?_, fun d ch h => Holds.stable hE (fun _ _ => rfl) (Nat.le_refl _) ch (fun _ _ => rfl) (hM.holds d ch (hl h)), fun d d' ch ch' b h h' hne => hM.disj d d' ch ch' b (hl h) (hl h') hne, fun b => Iff.rfl⟩
      exact (hM.holds _ _ (marksB_get hm h)).1)
    (fun d ch hd hm' x hx => by
      obtain ⟨rfl, rfl⟩ := key d ch hd hm'
      rw [upd_same] at hx
      obtain ⟨d', ch', h1, h2⟩ := hx
      exact ⟨(hM.own d' ch' (hl h1) x h2).1, .inl ⟨d', ch', hl h1, .inr (keysB_mem.2 ⟨ch', h1⟩), h2⟩⟩)
    (fun d d' ch ch' x hd hd' hm1 hm2 hne => absurd ((key d ch hd hm1).1.trans (key d' ch' hd' hm2).1.symm) hne)
  exact ⟨hn, hd, ρ, _, hM', hS.mono hE fun _ _ _ => rfl⟩
/-- .. and blocks again, where the marks are. -/
theorem Le.openX (g : Nat) (Bl : BL) (ms bs : Nat → Nat) (hg : lookB B g = some (.obj (.grpX Bl bs))) (hm : marksB B ms bs Bl) (hk : ((keysB Bl).all fun d => (lookB B d).isNone) = true) (ha : amongB (keysB Bl) Bl = true) (hbo : ∀ d ch, lookB Bl d = some ch → BlkOnly ch) : Le ids K B K (Bl ++ dropB B g) := by
  rintro N C a w ⟨hn, hd, ρ, F, hM, hS⟩
  obtain ⟨ρg, G, h1, h2, h3, h4⟩ : grpXR Bl bs (Imm C B F w) (F g) w := hM.holds g _ hg
  have hnone : ∀ {d ch}, lookB Bl d = some ch → lookB B d = none := fun {d ch} h => by
    have := List.all_eq_true.1 hk d (keysB_mem.2 ⟨ch, h⟩)
    simpa using this
  have hgk : lookB Bl g = none := by
    cases e : lookB Bl g with
    | none => rfl
    | some ch => rw [hnone e] at hg; cases hg
  have hblk : ∀ {d ch}, lookB Bl d = some ch → (ρ d).blk = (ρg d).blk := fun {d ch} h => ((hM.holds _ _ (marksB_get hm h)).1 : (ρ d).blk = bs d).trans (h1 d ch h).symm
  have lk : ∀ d ch, lookB (Bl ++ dropB B g) d = some ch → lookB Bl d = some ch ∨ (lookB Bl d = none ∧ d ≠ g ∧ lookB B d = some ch) := fun d ch h => by
    rw [lookB_app] at h
    cases e : lookB Bl d with
    | some x => rw [e] at h; exact .inl h
    | none =>
      rw [e, lookB_dropB] at h
      simp only at h
      split at h
      · cases h
      · rename_i hne; exact .inr ⟨rfl, fun e => hne e.symm, h⟩
  let F2 : Nat → Nat → Prop := fun d => if (lookB Bl d).isSome = true then G d else F d
  have e1 : ∀ {d ch}, lookB Bl d = some ch → F2 d = G d := fun {d ch} h => if_pos (by rw [h]; rfl)
  have e2 : ∀ {d}, lookB Bl d = none → F2 d = F d := fun {d} h => if_neg (by rw [h]; decide)
  obtain ⟨hM', hE⟩ := hM.step (B' := Bl ++ dropB B g) (ρ' := ρ) (F' := F2) (w' := w) (fun d => d = g ∨ (lookB Bl d).isSome = true) (fun _ => False) (Fr.refl _ _)
    (fun d ch hd hm => by
      rcases lk d ch hd with h | ⟨_, _, h⟩
      · exact absurd (.inr (by rw [h]; rfl)) hm
      · exact h)
    (fun _ _ => rfl) (fun d hm => e2 (by cases e : lookB Bl d with
      | none => rfl
      | some x => exact absurd (.inr (by rw [e]; rfl)) hm)) (fun _ _ h => h) (fun _ h => h.elim) (fun _ _ _ _ _ _ h => h)
    (fun d ch hd hm hE => by
      rcases lk d ch hd with h | ⟨h, hne, h'⟩
      · rw [e1 h]
        refine hbo d ch h ρg ρ _ _ w (ρg d) (ρ d) (fun c hc => ?_) (hblk h) (Holds.stable hE (fun _ _ => rfl) (Nat.le_refl _) ch (fun _ _ => rfl) (h2 d ch h))
        have := Ch.among_has (amongB_get ha h) hc
        obtain ⟨ch', h'⟩ := keysB_mem.1 this
        exact hblk h'
      · rcases hm with hm | hm
        · exact absurd hm hne
        · rw [h] at hm; cases hm)
    (fun d ch hd hm x hx => by
      rcases lk d ch hd with h | ⟨h, hne, h'⟩
      · rw [e1 h] at hx
        have : F g x := (h4 x).2 ⟨d, ch, h, hx⟩
        exact ⟨(hM.own g _ hg x this).1, .inl ⟨g, _, hg, .inl rfl, this⟩⟩
      · rcases hm with hm | hm
        · exact absurd hm hne
        · rw [h] at hm; cases hm)
    (fun d d' ch ch' x hd hd' hm hm' hne hx hx' => by
      rcases lk d ch hd with h | ⟨h, hn, _⟩
      · rcases lk d' ch' hd' with h' | ⟨h', hn', _⟩
        · rw [e1 h] at hx
          rw [e1 h'] at hx'
          exact h3 d d' ch ch' x h h' hne hx hx'
        · rcases hm' with hm' | hm'
          · exact absurd hm' hn'
          · rw [h'] at hm'; cases hm'
      · rcases hm with hm | hm
        · exact absurd hm hn
        · rw [h] at hm; cases hm)
  exact ⟨hn, hd, ρ, _, hM', hS.mono hE fun _ _ _ => rfl⟩
/-! ### an object that lies at a place, and one that wants it there -/
def Ob.tie (am : Nat) (o : Ob) (q : Pl) : Ob where
  R := fun I F w p => q.blk = am ∧ o.R I F w p
  stable := fun I F w I' w' p h he hF hz => ⟨h.1, o.stable I F w I' w' p h.2 he hF hz⟩
theorem Le.tie (g c am : Nat) {o oi : Ob} (hg : lookB B g = some (.obj o)) (hc : lookB B c = some (.obj (oi.at am))) (hne : g ≠ c) : Le ids K B K ((c, .obj oi) :: (g, .dep c (.tie am o)) :: B) := by
  rintro N C a w ⟨hn, hd, ρ, F, hM, hS⟩
  have hi : (ρ c).blk = am := (hM.holds c _ hc).1
  obtain ⟨hM1, hE1⟩ := hM.turn (w' := w) (ch := .dep c (.tie am o)) hg (Fr.refl _ _) fun I hI => ⟨hi, o.stable _ _ _ _ _ _ (hM.holds g _ hg) hI (fun _ _ => rfl) (Nat.le_refl _)⟩
  have hc1 : lookB ((g, Ch.dep c (.tie am o)) :: B) c = some (.obj (oi.at am)) := by rw [lookB_cons, if_neg hne]; exact hc
  obtain ⟨hM2, hE2⟩ := hM1.turn (w' := w) (ch := .obj oi) hc1 (Fr.refl _ _) fun I hI => oi.stable _ _ _ _ _ _ (hM1.holds c _ hc1).2 hI (fun _ _ => rfl) (Nat.le_refl _)
  exact ⟨hn, hd, ρ, F, hM2, hS.mono (hE1.trans hE2) fun _ _ _ => rfl⟩
theorem Le.untie (g c am : Nat) {o oi : Ob} (hg : lookB B g = some (.dep c (.tie am o))) (hc : lookB B c = some (.obj oi)) (hne : g ≠ c) : Le ids K B K ((c, .obj (oi.at am)) :: (g, .obj o) :: B) := by
  rintro N C a w ⟨hn, hd, ρ, F, hM, hS⟩
  have hh : (Ob.tie am o (ρ c)).R (Imm C B F w) (F g) w (ρ g) := hM.holds g _ hg
  obtain ⟨hM1, hE1⟩ := hM.turn (w' := w) (ch := .obj o) hg (Fr.refl _ _) fun I hI => o.stable _ _ _ _ _ _ hh.2 hI (fun _ _ => rfl) (Nat.le_refl _)
  have hc1 : lookB ((g, Ch.obj o) :: B) c = some (.obj oi) := by rw [lookB_cons, if_neg hne]; exact hc
  obtain ⟨hM2, hE2⟩ := hM1.turn (w' := w) (ch := .obj (oi.at am)) hc1 (Fr.refl _ _) fun I hI => ⟨hh.1, oi.stable _ _ _ _ _ _ (hM1.holds c _ hc1) hI (fun _ _ => rfl) (Nat.le_refl _)⟩
  exact ⟨hn, hd, ρ, F, hM2, hS.mono (hE1.trans hE2) fun _ _ _ => rfl⟩
/-- .. and where it is tied to is marked. -/
theorem Le.markT (g c m am : Nat) {o : Ob} (hg : lookB B g = some (.dep c (.tie am o))) (hm : freshB ids K B m = true) (hne : c ≠ m) : Le ids K B K ((m, .dep c (isAt am)) :: B) := by
  rintro N C a w ⟨hn, hd, ρ, F, hM, hS⟩
  have hfr := fresh_of hm
  have hh : (Ob.tie am o (ρ c)).R (Imm C B F w) (F g) w (ρ g) := hM.holds g _ hg
  obtain ⟨hM', hE⟩ := hM.make (ch := .dep c (isAt am)) (w' := w) hm (Below.refl _ _) ⟨0, none, 0, 0⟩ (fun _ => False) (fun _ h => h.elim) (fun I _ _ => by
    show (isAt am (upd ρ m _ c)).R I _ w _
    rw [upd_other _ _ hne]
    exact ⟨hh.1, fun _ h => h⟩)
  exact ⟨hn, hd, _, _, hM', hS.mono hE fun s c hc => upd_other _ _ (fun e => by subst e; rw [hfr.1 s] at hc; cases hc)⟩
theorem Le.loose (g c am : Nat) {o : Ob} (hg : lookB B g = some (.dep c (.tie am o))) : Le ids K B K ((g, .obj o) :: B) := by
  rintro N C a w ⟨hn, hd, ρ, F, hM, hS⟩
  have hh : (Ob.tie am o (ρ c)).R (Imm C B F w) (F g) w (ρ g) := hM.holds g _ hg
  obtain ⟨hM1, hE1⟩ := hM.turn (w' := w) (ch := .obj o) hg (Fr.refl _ _) fun I hI => o.stable _ _ _ _ _ _ hh.2 hI (fun _ _ => rfl) (Nat.le_refl _)
  exact ⟨hn, hd, ρ, F, hM1, hS.mono hE1 fun _ _ _ => rfl⟩
theorem Le.tieM (g c m am : Nat) {o : Ob} (hg : lookB B g = some (.obj o)) (hm : lookB B m = some (.dep c (isAt am))) : Le ids K B K ((g, .dep c (.tie am o)) :: B) := by
  rintro N C a w ⟨hn, hd, ρ, F, hM, hS⟩
  have hi : (ρ c).blk = am := (hM.holds m _ hm).1
  obtain ⟨hM1, hE1⟩ := hM.turn (w' := w) (ch := .dep c (.tie am o)) hg (Fr.refl _ _) fun I hI => ⟨hi, o.stable _ _ _ _ _ _ (hM.holds g _ hg) hI (fun _ _ => rfl) (Nat.le_refl _)⟩
  exact ⟨hn, hd, ρ, F, hM1, hS.mono hE1 fun _ _ _ => rfl⟩
theorem Le.forget (c b : Nat) {o : Ob} (hc : lookB B c = some (.obj (o.at b))) : Le ids K B K ((c, .obj o) :: B) := by
  rintro N C a w ⟨hn, hd, ρ, F, hM, hS⟩
  obtain ⟨hM1, hE1⟩ := hM.turn (w' := w) (ch := .obj o) hc (Fr.refl _ _) fun I hI => o.stable _ _ _ _ _ _ (hM.holds c _ hc).2 hI (fun _ _ => rfl) (Nat.le_refl _)
  exact ⟨hn, hd, ρ, F, hM1, hS.mono hE1 fun _ _ _ => rfl⟩
/-! ### slots that say addresses, by marks -/
theorem mark_blk {N : Nat} {C : Ctx} {a : Act} {w : World} {ρ : Nat → Pl} {F : Nat → Nat → Prop} (hM : Mem ids C B ρ F w) {m d b : Nat} (hm : lookB B m = some (.dep d (isAt b))) : (ρ d).blk = b := (hM.holds m _ hm).1
/-- A pointer to a marked block, as an address; and back. -/
theorem Le.toAdr (s d m b : Nat) (hs : look K s = .c (.one (.ptr d 0))) (hm : lookB B m = some (.dep d (isAt b))) : Le ids K B ((s, .c (.one (.d (.adr (some b))))) :: K) B := by
  rintro N C a w ⟨hn, hd, ρ, F, hM, hS⟩
  refine ⟨hn, hd, ρ, F, hM, fun t => ?_⟩
  rw [look_cons]
  split
  · rename_i e
    subst e
    have h := hS s
    rw [hs] at h
    have e := mark_blk (N := N) (a := a) hM hm
    rw [← e]
    exact h
  · exact hS t
theorem Le.ofAdr (s d m b : Nat) (hs : look K s = .c (.one (.d (.adr (some b))))) (hm : lookB B m = some (.dep d (isAt b))) : Le ids K B ((s, .c (.one (.ptr d 0))) :: K) B := by
  rintro N C a w ⟨hn, hd, ρ, F, hM, hS⟩
  refine ⟨hn, hd, ρ, F, hM, fun t => ?_⟩
  rw [look_cons]
  split
  · rename_i e
    subst e
    have h := hS s
    rw [hs] at h
    have e := mark_blk (N := N) (a := a) hM hm
    rw [← e] at h
    exact h
  · exact hS t
theorem Le.ofAt (s d b : Nat) {o : Ob} (hs : look K s = .c (.one (.d (.adr (some b))))) (hd : lookB B d = some (.obj (o.at b))) : Le ids K B ((s, .c (.one (.ptr d 0))) :: K) B := by
  rintro N C a w ⟨hn, hdf, ρ, F, hM, hS⟩
  refine ⟨hn, hdf, ρ, F, hM, fun t => ?_⟩
  rw [look_cons]
  split
  · rename_i e
    subst e
    have h := hS s
    rw [hs] at h
    have e : (ρ d).blk = b := (hM.holds d _ hd).1
    rw [← e] at h
    exact h
  · exact hS t
/-- A function with two pointers to marked blocks. -/
theorem Le.toFn (s f d1 d2 m1 m2 b1 b2 : Nat) (hs : look K s = .c (.one (.clo f [.p d1 0, .p d2 0]))) (h1 : lookB B m1 = some (.dep d1 (isAt b1))) (h2 : lookB B m2 = some (.dep d2 (isAt b2))) : Le ids K B ((s, .c (.one (.d (.fn (f, [b1, b2]))))) :: K) B := by
  rintro N C a w ⟨hn, hd, ρ, F, hM, hS⟩
  refine ⟨hn, hd, ρ, F, hM, fun t => ?_⟩
  rw [look_cons]
  split
  · rename_i e
    subst e
    have h := hS s
    rw [hs] at h
    obtain ⟨vs, e, v1, r1, e1, g1, v2, r2, e2, g2, g3⟩ := h
    have k1 := mark_blk (N := N) (a := a) hM h1
    have k2 := mark_blk (N := N) (a := a) hM h2
    have g1 : v1 = .pointer (some ⟨(ρ d1).blk, 0, none⟩) := g1
    have g2 : v2 = .pointer (some ⟨(ρ d2).blk, 0, none⟩) := g2
    have g3 : r2 = [] := g3
    show a.tmps.getD s undef = fnV (f, [b1, b2])
    rw [e, e1, e2, g1, g2, g3, k1, k2]
    rfl
  · exact hS t
end
end Go.Proofs.YtolaecebfkdbcaaGreat
