/-
  Contracts that make something known: other numbers. What a pool tells of its addresses.
-/
import Derived.Test.YtolaecebfkdbcaaGreatGrp
set_option linter.unusedVariables false
set_option linter.unusedSimpArgs false
namespace Go.Proofs.YtolaecebfkdbcaaGreat
open Go.RowKit
theorem FnX.rn' {P : Program} {fn : FuncId} {f g : Nat → Nat} (hg : ∀ c, g (f c) = c) (hf : ∀ c, f (g c) = c) {args : List SV} {Bi : BL} {nw : List Nat} {X : Type} {res : X → SV} {Bo : X → BL} (h : FnX P fn args Bi nw res Bo) :
    FnX P fn (rnVL f args) (rnB f Bi) (rnN f nw) (fun x => (res x).rn f) (fun x => rnB f (Bo x)) := by
  refine ⟨h.1, ?_⟩
  intro ρ F I w vals hI hH hF hdj hlen hden
  have lk : ∀ (B : BL) c, lookB (rnB f B) (f c) = (lookB B c).map (·.rn f) := lookB_rnB hg
  have fwd : ∀ {B : BL} {c ch}, lookB B c = some ch → lookB (rnB f B) (f c) = some (ch.rn f) := fun {B c ch} h => by rw [lk, h]; rfl
  have bwd : ∀ {B : BL} {c ch}, lookB (rnB f B) c = some ch → ∃ ch0, lookB B (g c) = some ch0 ∧ ch = ch0.rn f := fun {B c ch} h => by
    have e := lk B (g c)
    rw [hf, h] at e
    obtain ⟨ch0, h1, h2⟩ := Option.map_eq_some_iff.1 e.symm
    exact ⟨ch0, h1, h2.symm⟩
  rw [rnVL_map] at hlen hden
  have hc := h.2 (fun c => ρ (f c)) (fun c => F (f c)) I w vals hI
    (fun c ch hc => by rw [← Holds_rn]; exact hH _ _ (fwd hc))
    (fun c ch hc => hF _ _ (fwd hc))
    (fun c c' ch ch' b h1 h2 hne => hdj _ _ _ _ b (fwd h1) (fwd h2) fun e => hne (by rw [← hg c, e, hg]))
    (by simpa using hlen)
    (fun i v x hv hx => by rw [← DenV_rn]; exact hden i _ x (by rw [List.getElem?_map, hv]; rfl) hx)
  refine hc.mono ?_
  rintro e w' ⟨y, x, ρ', F', rfl, hfr, hρ, I', he1, he2, hH', hO, hDj, hx⟩
  have hback : (fun c => ρ' (g (f c))) = ρ' := funext fun c => by rw [hg]
  refine ⟨y, x, fun c => ρ' (g c), fun c => F' (g c), rfl, ?_, ?_, I', he1, ?_, ?_, ?_, ?_, ?_⟩
  · exact hfr.mono fun b _ ⟨c, ch, h1, h2⟩ => ⟨f c, _, fwd h1, h2⟩
  · intro c hc
    show ρ' (g c) = ρ c
    rw [hρ (g c) (fun hm => hc (by have := rnN_mem (f := f) _ _ hm; rwa [hf] at this)), hf]
  · intro b hb
    obtain ⟨h1, h2⟩ := he2 b hb
    refine ⟨h1, ?_⟩
    rcases h2 with h2 | ⟨c, ch, h2, h3⟩ | h2
    · exact .inl h2
    · exact .inr (.inl ⟨f c, _, fwd h2, h3⟩)
    · exact .inr (.inr h2)
  · intro c ch hc
    obtain ⟨ch0, h1, rfl⟩ := bwd hc
    rw [Holds_rn, hback]
    exact hH' _ _ h1
  · intro c ch hc b hb
    obtain ⟨ch0, h1, rfl⟩ := bwd hc
    obtain ⟨q1, q2, q3⟩ := hO _ _ h1 b hb
    refine ⟨q1, q2, ?_⟩
    rcases q3 with ⟨c0, ch0, q3, q4⟩ | q3
    · exact .inl ⟨f c0, _, fwd q3, q4⟩
    · exact .inr q3
  · intro c c' ch ch' b hc hc' hne
    obtain ⟨ch0, h1, rfl⟩ := bwd hc
    obtain ⟨ch1, h2, rfl⟩ := bwd hc'
    exact hDj _ _ _ _ b h1 h2 fun e => hne (by rw [← hf c, e, hf])
  · rw [DenV_rn, hback]
    exact hx
theorem FnX.ren {P : Program} {fn : FuncId} (l : List (Nat × Nat)) {args : List SV} {Bi : BL} {nw : List Nat} {X : Type} {res : X → SV} {Bo : X → BL} (h : FnX P fn args Bi nw res Bo) :
    FnX P fn (rnVL (rn (mkRn l [])) args) (rnB (rn (mkRn l [])) Bi) (rnN (rn (mkRn l [])) nw) (fun x => (res x).rn (rn (mkRn l []))) (fun x => rnB (rn (mkRn l [])) (Bo x)) :=
  FnX.rn' (rnI_rn _) (rn_rnI _) h
theorem FnX.arg {P : Program} {f : FuncId} {args args' : List SV} {Bi : BL} {nw : List Nat} {X : Type} {res : X → SV} {Bo : X → BL} (h : FnX P f args' Bi nw res Bo) (hl : leVL args args') : FnX P f args Bi nw res Bo := by
  obtain ⟨h1, h2⟩ := leVL_get hl
  refine ⟨h.1, fun ρ F I w vals a1 a2 a3 a4 a5 a6 => h.2 ρ F I w vals a1 a2 a3 a4 (a5.trans h1) fun i v x hv hx => ?_⟩
  obtain ⟨s, g1, g2⟩ := h2 i v hv
  exact leV_den g2 (a6 i s x g1 hx)
/-- An object that has the block it begins with. -/
def Ob.anch (o : Ob) : Prop := ∀ I F w p, o.R I F w p → F p.blk
theorem poolR_in {I : Nat → Prop} {w : World} {b : Nat} : ∀ {L : List (Nat × Ob)} {F : Nat → Prop}, (∀ p ∈ L, p.2.anch) → poolR I w L F → b ∈ L.map (·.1) → F b
  | [], _, _, _, h => by cases h
  | p :: L, F, ha, ⟨F1, F2, q, h1, h2, h3, h4, h5⟩, h => by
    rcases List.mem_cons.1 h with h | h
    · exact (h1 b).2 (.inl (by rw [h]; have := ha p (List.mem_cons_self ..) _ _ _ _ h4; rwa [h3] at this))
    · exact (h1 b).2 (.inr (poolR_in (fun p hp => ha p (List.mem_cons_of_mem _ hp)) h5 h))
theorem poolR_nodup {I : Nat → Prop} {w : World} : ∀ {L : List (Nat × Ob)} {F : Nat → Prop}, (∀ p ∈ L, p.2.anch) → poolR I w L F → (L.map (·.1)).Nodup
  | [], _, _, _ => List.nodup_nil
  | p :: L, F, ha, ⟨F1, F2, q, h1, h2, h3, h4, h5⟩ => by
    have ha' : ∀ p ∈ L, p.2.anch := fun p hp => ha p (List.mem_cons_of_mem _ hp)
    rw [List.map_cons]
    refine List.nodup_cons.2 ⟨fun hm => ?_, poolR_nodup ha' h5⟩
    have e1 := ha p (List.mem_cons_self ..) _ _ _ _ h4
    rw [h3] at e1
    exact h2 _ e1 (poolR_in ha' h5 hm)
/-- A pool's addresses differ. -/
theorem LeX.poolNd {ids : List Nat} {K : KL} {B : BL} (q : Nat) {L : List (Nat × Ob)} (ha : ∀ p ∈ L, p.2.anch) (hq : lookB B q = some (.obj (.pool L))) : LeX ids K B (X := PLift ((L.map (·.1)).Nodup)) (fun _ => K) (fun _ => B) := by
  rintro N C a w ⟨hn, hd, ρ, F, hM, hS⟩
  have hP : poolR (Imm C B F w) w L (F q) := hM.holds q _ hq
  exact ⟨⟨poolR_nodup ha hP⟩, hn, hd, ρ, F, hM, hS⟩
end Go.Proofs.YtolaecebfkdbcaaGreat
