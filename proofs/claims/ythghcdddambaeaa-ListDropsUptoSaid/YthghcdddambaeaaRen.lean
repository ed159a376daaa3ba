/-
  A contract holds whatever numbers its blocks have.
-/
import Derived.Test.YthghcdddambaeaaLe
set_option linter.unusedVariables false
set_option linter.unusedSimpArgs false
namespace Go.Proofs.Ythghcdddambaeaa
open Go.RowKit

def swp (a b c : Nat) : Nat := match Nat.beq c a with
  | true => b
  | false => match Nat.beq c b with
    | true => a
    | false => c
theorem beq_ne {a b : Nat} (h : a ≠ b) : Nat.beq a b = false := by rw [Bool.eq_false_iff]; exact fun e => h (Nat.eq_of_beq_eq_true e)
theorem swp_swp (a b c : Nat) : swp a b (swp a b c) = c := by
  unfold swp
  by_cases h1 : c = a
  · subst h1
    simp only [Nat.beq_refl]
    by_cases h2 : b = c
    · subst h2; simp
    · simp [beq_ne h2]
  · simp only [beq_ne h1]
    by_cases h2 : c = b
    · subst h2; simp
    · simp [beq_ne h2, beq_ne h1]
def rn : List (Nat × Nat) → Nat → Nat
  | [], c => c
  | (a, b) :: l, c => rn l (swp a b c)
def rnI : List (Nat × Nat) → Nat → Nat
  | [], c => c
  | (a, b) :: l, c => swp a b (rnI l c)
theorem rnI_rn : ∀ (l : List (Nat × Nat)) (c : Nat), rnI l (rn l c) = c
  | [], c => rfl
  | (a, b) :: l, c => by simp only [rn, rnI, rnI_rn l, swp_swp]
theorem rn_rnI : ∀ (l : List (Nat × Nat)) (c : Nat), rn l (rnI l c) = c
  | [], c => rfl
  | (a, b) :: l, c => by simp only [rn, rnI, swp_swp, rn_rnI l]
/-- Swaps that send each first to its second. -/
def mkRn : List (Nat × Nat) → List (Nat × Nat) → List (Nat × Nat)
  | [], acc => acc
  | (a, b) :: l, acc => mkRn l (acc ++ [(rn acc a, b)])

section
variable (f : Nat → Nat)
def capsRn : List Cap → List Cap
  | [] => []
  | .p c o :: l => .p (f c) o :: capsRn l
  | .d x :: l => .d x :: capsRn l
def S1.rn : S1 → S1
  | .ptr c o => .ptr (f c) o
  | .own c => .own (f c)
  | .rp c s i o => .rp (f c) s i o
  | .os c s o n => .os (f c) s o n
  | .mp c => .mp (f c)
  | .clo g l => .clo g (capsRn f l)
  | .d x => .d x
  | .el u x o => .el u x o
  | .nils => .nils
  | .raw v => .raw v
  | .any => .any
def rnL : List S1 → List S1
  | [] => []
  | s :: l => s.rn f :: rnL l
def SC.rn : SC → SC
  | .one s => .one (s.rn f)
  | .agg l => .agg (rnL f l)
def rnCL : List SC → List SC
  | [] => []
  | s :: l => s.rn f :: rnCL l
def SV.rn : SV → SV
  | .c s => .c (s.rn f)
  | .tup l => .tup (rnCL f l)
  | .undef => .undef
def rnVL : List SV → List SV
  | [] => []
  | s :: l => s.rn f :: rnVL l
def Ch.rn : Ch → Ch
  | .cells l => .cells (rnL f l)
  | .row e u xs => .row e u xs
  | .obj o => .obj o
def rnB : BL → BL
  | [] => []
  | (c, ch) :: B => (f c, ch.rn f) :: rnB B
def rnN : List Nat → List Nat
  | [] => []
  | c :: l => f c :: rnN l
end
section
variable {f g : Nat → Nat} {ρ : Nat → Pl} {I : Nat → Prop} {w : World}
theorem DenCaps_rn : ∀ (l : List Cap) (vs : List Value), DenCaps ρ I w (capsRn f l) vs = DenCaps (fun c => ρ (f c)) I w l vs
  | [], vs => rfl
  | .p c o :: l, vs => by simp only [capsRn, DenCaps, DenCap, DenCaps_rn l]
  | .d x :: l, vs => by simp only [capsRn, DenCaps, DenCap, DenCaps_rn l]
theorem DenS_rn (s : S1) (v : Value) : DenS ρ I w (s.rn f) v = DenS (fun c => ρ (f c)) I w s v := by
  cases s with
  | clo g l => simp only [S1.rn, DenS, DenCaps_rn]
  | _ => rfl
theorem DenL_rn : ∀ (l : List S1) (vs : List Value), DenL ρ I w (rnL f l) vs = DenL (fun c => ρ (f c)) I w l vs
  | [], vs => rfl
  | s :: l, vs => by simp only [rnL, DenL, DenS_rn, DenL_rn l]
theorem DenC_rn (s : SC) (v : Value) : DenC ρ I w (s.rn f) v = DenC (fun c => ρ (f c)) I w s v := by
  cases s with
  | one s => exact DenS_rn s v
  | agg l => simp only [SC.rn, DenC, DenL_rn]
theorem DenCL_rn : ∀ (l : List SC) (vs : List Value), DenCL ρ I w (rnCL f l) vs = DenCL (fun c => ρ (f c)) I w l vs
  | [], vs => rfl
  | s :: l, vs => by simp only [rnCL, DenCL, DenC_rn, DenCL_rn l]
theorem DenV_rn (s : SV) (v : Value) : DenV ρ I w (s.rn f) v = DenV (fun c => ρ (f c)) I w s v := by
  cases s with
  | c s => exact DenC_rn s v
  | tup l => simp only [SV.rn, DenV, DenCL_rn]
  | undef => rfl
theorem Holds_rn {F : Nat → Prop} {p : Pl} (ch : Ch) : Holds ρ I F w p (ch.rn f) = Holds (fun c => ρ (f c)) I F w p ch := by
  cases ch with
  | cells l => simp only [Ch.rn, Holds, DenL_rn]
  | row e u xs => rfl
  | obj o => rfl
theorem lookB_rnB (hg : ∀ c, g (f c) = c) : ∀ (B : BL) (c : Nat), lookB (rnB f B) (f c) = (lookB B c).map (·.rn f)
  | [], c => rfl
  | (d, ch) :: B, c => by
    simp only [rnB]
    rw [lookB_cons, lookB_cons, lookB_rnB hg B c]
    by_cases h : d = c
    · subst h; rw [if_pos rfl, if_pos rfl]; rfl
    · rw [if_neg h, if_neg fun e => h (by rw [← hg d, e, hg])]
theorem rnVL_map : ∀ (l : List SV), rnVL f l = l.map (·.rn f)
  | [] => rfl
  | s :: l => by simp only [rnVL, List.map_cons, rnVL_map l]
theorem rnN_mem : ∀ (l : List Nat) (c : Nat), c ∈ l → f c ∈ rnN f l
  | [], c, h => by cases h
  | d :: l, c, h => by
    rcases List.mem_cons.1 h with rfl | h
    · exact List.mem_cons_self
    · exact List.mem_cons_of_mem _ (rnN_mem l c h)
end
theorem Fn.rn' {P : Program} {fn : FuncId} {f g : Nat → Nat} (hg : ∀ c, g (f c) = c) (hf : ∀ c, f (g c) = c) {args : List SV} {Bi : BL} {nw : List Nat} {res : SV} {Bo : BL} (h : Fn P fn args Bi nw res Bo) :
    Fn P fn (rnVL f args) (rnB f Bi) (rnN f nw) (res.rn f) (rnB f Bo) := by
  refine ⟨h.1, ?_⟩
  intro ρ F I w vals hI hH hF hdj hlen hden
  have lk : ∀ (B : BL) c, lookB (rnB f B) (f c) = (lookB B c).map (·.rn f) := lookB_rnB hg
  have fwd : ∀ {B : BL} {c ch}, lookB B c = some ch → lookB (rnB f B) (f c) = some (ch.rn f) := fun {B c ch} h => by rw [lk, h]; rfl
  have bwd : ∀ {B : BL} {c ch}, lookB (rnB f B) c = some ch → ∃ ch0, lookB B (g c) = some ch0 ∧ ch = ch0.rn f := fun {B c ch} h => by
    have e := lk B (g c)
    rw [hf, h] at e
    obtain ⟨ch0, h1, h2⟩ := Option.map_eq_some_iff.1 e.symm
    exact ⟨ch0, h1, h2.symm⟩
  rw [rnVL_map] at hlen hden
  have hc := h.2 (fun c => ρ (f c)) (fun c => F (f c)) I w vals hI
    (fun c ch hc => by rw [← Holds_rn]; exact hH _ _ (fwd hc))
    (fun c ch hc => hF _ _ (fwd hc))
    (fun c c' ch ch' b h1 h2 hne => hdj _ _ _ _ b (fwd h1) (fwd h2) fun e => hne (by rw [← hg c, e, hg]))
    (by simpa using hlen)
    (fun i v x hv hx => by rw [← DenV_rn]; exact hden i _ x (by rw [List.getElem?_map, hv]; rfl) hx)
  refine hc.mono ?_
  rintro e w' ⟨x, ρ', F', rfl, hfr, hρ, I', he1, he2, hH', hO, hDj, hx⟩
  have hback : (fun c => ρ' (g (f c))) = ρ' := funext fun c => by rw [hg]
  refine ⟨x, fun c => ρ' (g c), fun c => F' (g c), rfl, ?_, ?_, I', he1, ?_, ?_, ?_, ?_, ?_⟩
  · exact hfr.mono fun b _ ⟨c, ch, h1, h2⟩ => ⟨f c, _, fwd h1, h2⟩
  · intro c hc
    show ρ' (g c) = ρ c
    rw [hρ (g c) (fun hm => hc (by have := rnN_mem (f := f) _ _ hm; rwa [hf] at this)), hf]
  · intro b hb
    obtain ⟨h1, h2⟩ := he2 b hb
    refine ⟨h1, ?_⟩
    rcases h2 with h2 | ⟨c, ch, h2, h3⟩ | h2
    · exact .inl h2
    · exact .inr (.inl ⟨f c, _, fwd h2, h3⟩)
    · exact .inr (.inr h2)
  · intro c ch hc
    obtain ⟨ch0, h1, rfl⟩ := bwd hc
    rw [Holds_rn, hback]
    exact hH' _ _ h1
  · intro c ch hc b hb
    obtain ⟨ch0, h1, rfl⟩ := bwd hc
    obtain ⟨q1, q2, q3⟩ := hO _ _ h1 b hb
    refine ⟨q1, q2, ?_⟩
    rcases q3 with ⟨c0, ch0, q3, q4⟩ | q3
    · exact .inl ⟨f c0, _, fwd q3, q4⟩
    · exact .inr q3
  · intro c c' ch ch' b hc hc' hne
    obtain ⟨ch0, h1, rfl⟩ := bwd hc
    obtain ⟨ch1, h2, rfl⟩ := bwd hc'
    exact hDj _ _ _ _ b h1 h2 fun e => hne (by rw [← hf c, e, hf])
  · rw [DenV_rn, hback]
    exact hx
theorem Fn.ren {P : Program} {fn : FuncId} (l : List (Nat × Nat)) {args : List SV} {Bi : BL} {nw : List Nat} {res : SV} {Bo : BL} (h : Fn P fn args Bi nw res Bo) :
    Fn P fn (rnVL (rn (mkRn l [])) args) (rnB (rn (mkRn l [])) Bi) (rnN (rn (mkRn l [])) nw) (res.rn (rn (mkRn l []))) (rnB (rn (mkRn l [])) Bo) :=
  Fn.rn' (rnI_rn _) (rn_rnI _) h
end Go.Proofs.Ythghcdddambaeaa
