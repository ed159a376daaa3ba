/-
  One of a pool, taken out; and put back, turned.
-/
import Derived.Test.YtolaecebfkdbcaaGreatVj
set_option linter.unusedVariables false
set_option linter.unusedSimpArgs false
namespace Go.Proofs.YtolaecebfkdbcaaGreat
open Go.RowKit
def pdel : List (Nat × Ob) → Nat → List (Nat × Ob)
  | [], _ => []
  | (a, o) :: L, b => if a = b then L else (a, o) :: pdel L b
theorem or_swap {a b c : Prop} : (a ∨ b ∨ c) ↔ (b ∨ a ∨ c) := ⟨fun h => by
  rcases h with h | h | h
  · exact .inr (.inl h)
  · exact .inl h
  · exact .inr (.inr h), fun h => by
  rcases h with h | h | h
  · exact .inr (.inl h)
  · exact .inl h
  · exact .inr (.inr h)⟩
theorem poolR.del {I : Nat → Prop} {w : World} {b : Nat} {o : Ob} : ∀ {L : List (Nat × Ob)} {F : Nat → Prop}, pget L b = some o → poolR I w L F → ∃ (F1 F2 : Nat → Prop) (p : Pl), (∀ x, F x ↔ F1 x ∨ F2 x) ∧ (∀ x, F1 x → ¬ F2 x) ∧ p.blk = b ∧ o.R I F1 w p ∧ poolR I w (pdel L b) F2
  | [], F, h, _ => by cases h
  | (a, q) :: L, F, h, ⟨G1, G2, p, h1, h2, h3, h4, h5⟩ => by
    unfold pget at h
    unfold pdel
    split at h
    · rename_i e
      injection h with h
      subst h
      rw [if_pos e]
      exact ⟨G1, G2, p, h1, h2, h3.trans e, h4, h5⟩
    · rename_i e
      rw [if_neg e]
      obtain ⟨F1, F2, p1, g1, g2, g3, g4, g5⟩ := poolR.del h h5
      refine ⟨F1, fun x => G1 x ∨ F2 x, p1, fun x => by rw [h1, g1]; exact or_swap, fun x hx hy => ?_, g3, g4, G1, F2, p, fun x => Iff.rfl, fun x hx hy => h2 x hx ((g1 x).2 (.inr hy)), h3, h4, g5⟩
      rcases hy with hy | hy
      · exact h2 x hy ((g1 x).2 (.inl hx))
      · exact g2 x hx hy
theorem poolR.ins {I : Nat → Prop} {w : World} {b : Nat} {o o' : Ob} {F1 : Nat → Prop} {p : Pl} (ho : o'.R I F1 w p) (hp : p.blk = b) : ∀ {L : List (Nat × Ob)} {F : Nat → Prop}, pget L b = some o → poolR I w (pdel L b) F → (∀ x, F1 x → ¬ F x) → poolR I w (pset L b o') (fun x => F1 x ∨ F x)
  | [], F, h, _, _ => by cases h
  | (a, q) :: L, F, h, hd, hdj => by
    unfold pget at h
    unfold pdel at hd
    unfold pset
    split at h
    · rename_i e
      rw [if_pos e] at hd ⊢
      exact ⟨F1, F, p, fun x => Iff.rfl, hdj, hp.trans e.symm, ho, hd⟩
    · rename_i e
      rw [if_neg e] at hd ⊢
      obtain ⟨G1, G2, r, h1, h2, h3, h4, h5⟩ := hd
      refine ⟨G1, fun x => F1 x ∨ G2 x, r, fun x => by
        show (F1 x ∨ F x) ↔ (G1 x ∨ (F1 x ∨ G2 x))
        rw [h1]; exact or_swap, fun x hx hy => ?_, h3, h4, poolR.ins ho hp h h5 fun x hx hy => hdj x hx ((h1 x).2 (.inr hy))⟩
      rcases hy with hy | hy
      · exact hdj x hy ((h1 x).2 (.inl hx))
      · exact h2 x hx hy
theorem pset_self {o : Ob} {b : Nat} : ∀ {L : List (Nat × Ob)}, pget L b = some o → pset L b o = L
  | [], h => by cases h
  | (a, q) :: L, h => by
    unfold pget at h
    unfold pset
    split at h
    · rename_i e
      injection h with h
      rw [if_pos e, h]
    · rename_i e
      rw [if_neg e, pset_self h]
section
variable {ids : List Nat} {K : KL} {B : BL}
theorem Le.takeOut (q c b : Nat) {o : Ob} {L : List (Nat × Ob)} (hq : lookB B q = some (.obj (.pool L))) (hL : pget L b = some o) (hc : freshB ids K B c = true) : Le ids K B K ((c, .obj (o.at b)) :: (q, .obj (.pool (pdel L b))) :: B) := by
  rintro N C a w ⟨hn, hd, ρ, F, hM, hS⟩
  have f := fresh_of hc
  obtain ⟨F1, F2, p, h1, h2, h3, h4, h5⟩ := poolR.del hL (hM.holds q _ hq : poolR _ w L (F q))
  obtain ⟨hM', hE⟩ := hM.split (K := K) (ch1 := .obj (.pool (pdel L b))) (ch2 := .obj (o.at b)) hq hc p F2 F1 (fun x hx => (h1 x).2 (.inr hx)) (fun x hx => (h1 x).2 (.inl hx)) (fun x hx hy => h2 x hy hx)
    (fun I hI => h5.stable hI (Nat.le_refl _) (fun _ _ => rfl)) (fun I hI => ⟨h3, o.stable _ _ _ _ _ _ h4 hI (fun _ _ => rfl) (Nat.le_refl _)⟩)
  exact ⟨hn, hd, _, _, hM', hS.mono hE fun s d hd => upd_other _ _ (fun e => by subst e; rw [f.1 s] at hd; cases hd)⟩
theorem Le.putAt (q c b : Nat) {o o' : Ob} {L : List (Nat × Ob)} (hq : lookB B q = some (.obj (.pool (pdel L b)))) (hc : lookB B c = some (.obj (o'.at b))) (hL : pget L b = some o) (hne : q ≠ c) : Le ids K B K ((q, .obj (.pool (pset L b o'))) :: dropB B c) := by
  rintro N C a w ⟨hn, hd, ρ, F, hM, hS⟩
  have hP : poolR (Imm C B F w) w (pdel L b) (F q) := hM.holds q _ hq
  have hO : (ρ c).blk = b ∧ o'.R (Imm C B F w) (F c) w (ρ c) := hM.holds c _ hc
  obtain ⟨hM', hE⟩ := hM.join (w' := w) (ch := .obj (.pool (pset L b o'))) hq hc hne (fun x => F c x ∨ F q x) (fun x hx => hx.symm) (Fr.refl _ _) fun I hI =>
    (poolR.ins hO.2 hO.1 hL hP (fun x hx hy => hM.disj c q _ _ x hc hq (Ne.symm hne) hx hy)).stable hI (Nat.le_refl _) fun _ _ => rfl
  exact ⟨hn, hd, ρ, _, hM', hS.mono hE fun _ _ _ => rfl⟩
/-- .. of blocks that lie where they are told to. -/
theorem Le.putX (q c b : Nat) {o : Ob} {Bl : BL} {bs : Nat → Nat} {L : List (Nat × Ob)} (hq : lookB B q = some (.obj (.pool (pdel L b)))) (hc : lookB B c = some (.obj (.grpX Bl bs))) (hL : pget L b = some o) (hne : q ≠ c) : Le ids K B K ((q, .obj (.pool (pset L b (.grpX Bl bs)))) :: dropB B c) := by
  rintro N C a w ⟨hn, hd, ρ, F, hM, hS⟩
  have hP : poolR (Imm C B F w) w (pdel L b) (F q) := hM.holds q _ hq
  have hO : grpXR Bl bs (Imm C B F w) (F c) w := hM.holds c _ hc
  obtain ⟨hM', hE⟩ := hM.join (w' := w) (ch := .obj (.pool (pset L b (.grpX Bl bs)))) hq hc hne (fun x => F c x ∨ F q x) (fun x hx => hx.symm) (Fr.refl _ _) fun I hI =>
    (poolR.ins (o' := .grpX Bl bs) (p := ⟨b, none, 0, 0⟩) hO rfl hL hP (fun x hx hy => hM.disj c q _ _ x hc hq (Ne.symm hne) hx hy)).stable hI (Nat.le_refl _) fun _ _ => rfl
  exact ⟨hn, hd, ρ, _, hM', hS.mono hE fun _ _ _ => rfl⟩
/-- A contract on blocks that are as they were, as one on the pool that has them, where they are told to be. -/
theorem Fn.poolX {P : Program} {f : FuncId} {c q am : Nat} {args : List SV} {res : SV} {Bl : BL} {bs : Nat → Nat} {M : List (Nat × Ob)} (h : Fn P f (.c (.one (.ptr c 0)) :: args) Bl [] res Bl) (hM : pget M am = some (.grpX Bl bs)) (hc : bs c = am) (hcB : (lookB Bl c).isSome = true) (ha : (args.all fun v => v.among []) = true) (hr : res.among [] = true) :
    Fn P f (.c (.one (.d (.adr (some am)))) :: args) [(q, .obj (.pool M))] [] res [(q, .obj (.pool M))] := by
  obtain ⟨hcall, h⟩ := h
  refine ⟨hcall, fun ρ F I w vals hI hH hF hdj hlen hden => ?_⟩
  have hq : lookB [(q, Ch.obj (.pool M))] q = some (.obj (.pool M)) := by rw [lookB_cons, if_pos rfl]
  have hq1 : ∀ {d ch}, lookB [(q, Ch.obj (.pool M))] d = some ch → d = q ∧ ch = .obj (.pool M) := fun {d ch} hd => by
    rw [lookB_cons] at hd
    split at hd
    · rename_i e; injection hd with hd; exact ⟨e.symm, hd.symm⟩
    · cases hd
  have hP : poolR I w M (F q) := hH q _ hq
  obtain ⟨F1, F2, p, k1, k2, k3, k4, k5⟩ := hP.out hM
  obtain ⟨ρg, G, g1, g2, g3, g4⟩ : grpXR Bl bs I F1 w := k4
  have hno : ∀ {v : SV}, v.among [] = true → ∀ d, v.has d = true → ∀ (ρ ρ' : Nat → Pl), ρ' d = ρ d := fun {v} hv d hd _ _ => absurd (SV.among_has hv hd) List.not_mem_nil
  have hGF : ∀ y, (∃ d ch, lookB Bl d = some ch ∧ G d y) → ∃ d ch, lookB [(q, Ch.obj (.pool M))] d = some ch ∧ F d y := fun y hy => ⟨q, _, hq, (k1 y).2 (.inl ((g4 y).2 hy))⟩
  obtain ⟨chc, hcc⟩ := Option.isSome_iff_exists.1 hcB
  match vals, hlen with
  | v0 :: vals, hlen =>
    have hv0 : v0 = .pointer (some ⟨am, 0, none⟩) := hden 0 _ v0 rfl rfl
    refine (h ρg G I w (v0 :: vals) hI g2 (fun d ch hd b hb => hF q _ hq b ((k1 b).2 (.inl ((g4 b).2 ⟨d, ch, hd, hb⟩)))) g3 (by simpa using hlen) ?_).mono ?_
    · intro i v x hv hx
      match i with
      | 0 =>
        simp only [List.getElem?_cons_zero, Option.some.injEq] at hv hx
        subst hv hx
        show v0 = .pointer (some ⟨(ρg c).blk, 0, none⟩)
        rw [g1 c chc hcc, hc]
        exact hv0
      | i + 1 =>
        have hv' : args[i]? = some v := by simpa using hv
        have := List.all_eq_true.1 ha v (List.mem_of_getElem? hv')
        exact DenV.mono (Ext.refl _ _) v x (fun d hd => hno this d hd _ _) (hden (i + 1) v x (by simpa using hv) hx)
    · rintro e w' ⟨x, ρ', F', rfl, hfr, hρ, I', he1, he2, hH', hO, hDj, hden'⟩
      have hF2 : ∀ y, F2 y → ¬ ∃ d ch, lookB Bl d = some ch ∧ G d y := fun y hy hG => k2 y ((g4 y).2 hG) hy
      have hF2s : ∀ y, F2 y → y < w.heap.size ∧ ¬ I y := fun y hy => hF q _ hq y ((k1 y).2 (.inr hy))
      have hold : ∀ y, F2 y → w'.heap[y]? = w.heap[y]? := fun y hy => hfr.block y (hF2s y hy).1 (hF2 y hy)
      have hnot : ∀ y, (∃ d ch, lookB Bl d = some ch ∧ F' d y) → ¬ F2 y := by
        rintro y ⟨d, ch, hd, hy⟩ h2y
        rcases (hO d ch hd y hy).2.2 with h | h
        · exact hF2 y h2y h
        · have := (hF2s y h2y).1; omega
      have hnew := k5 I' w' (.grpX Bl bs) (fun y => ∃ d ch, lookB Bl d = some ch ∧ F' d y) p he1 hfr.size hold k3
        ⟨ρ', F', fun d ch hd => by rw [hρ d List.not_mem_nil]; exact g1 d ch hd, hH', hDj, fun b => Iff.rfl⟩ hnot
      rw [pset_self hM] at hnew
      refine ⟨x, ρ, fun d => if d = q then (fun y => (∃ d ch, lookB Bl d = some ch ∧ F' d y) ∨ F2 y) else F' d, rfl, hfr.mono fun y _ hy => hGF y hy, fun d _ => rfl, I', he1, fun y hy => ⟨(he2 y hy).1, ?_⟩, ?_, ?_, ?_, ?_⟩
      · rcases (he2 y hy).2 with h | h | h
        · exact .inl h
        · exact .inr (.inl (hGF y h))
        · exact .inr (.inr h)
      · intro d ch hd
        obtain ⟨rfl, rfl⟩ := hq1 hd
        simp only [if_true]
        exact hnew
      · intro d ch hd y hy
        obtain ⟨rfl, rfl⟩ := hq1 hd
        simp only [if_true] at hy
        rcases hy with ⟨d', ch', hd', hy⟩ | hy
        · obtain ⟨a1, a2, a3⟩ := hO d' ch' hd' y hy
          exact ⟨a1, a2, a3.imp (hGF y) id⟩
        · refine ⟨Nat.lt_of_lt_of_le (hF2s y hy).1 hfr.size, fun hi => ?_, .inl ⟨d, _, hq, (k1 y).2 (.inr hy)⟩⟩
          rcases (he2 y hi).2 with h | h | h
          · exact (hF2s y hy).2 h
          · exact hF2 y hy h
          · have := (hF2s y hy).1; omega
      · intro d d' ch ch' y hd hd' hne
        exact absurd ((hq1 hd).1.trans (hq1 hd').1.symm) hne
      · exact DenV.mono (Ext.refl _ _) res x (fun d hd => hno hr d hd _ _) hden'
end
end Go.Proofs.YtolaecebfkdbcaaGreat
