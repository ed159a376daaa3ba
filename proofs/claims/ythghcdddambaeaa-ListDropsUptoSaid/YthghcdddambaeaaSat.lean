/-
  States: what the slots have, and what the blocks of the call's own are. When a frame and a world are as a state says; the steps from one to the next.
-/
import Derived.Test.YthghcdddambaeaaU
set_option linter.unusedVariables false
set_option linter.unusedSimpArgs false
namespace Go.Proofs.Ythghcdddambaeaa
open Go.RowKit

abbrev KL := List (Nat × SV)
abbrev BL := List (Nat × Ch)
def look : KL → Nat → SV
  | [], _ => .c (.one .any)
  | (t, v) :: K, s => match Nat.beq t s with
    | true => v
    | false => look K s
def lookB : BL → Nat → Option Ch
  | [], _ => none
  | (t, v) :: B, s => match Nat.beq t s with
    | true => some v
    | false => lookB B s
/-- A block is given up. -/
def dropB : BL → Nat → BL
  | [], _ => []
  | (t, v) :: B, s => match Nat.beq t s with
    | true => dropB B s
    | false => (t, v) :: dropB B s
theorem lookB_dropB (B : BL) (c d : Nat) : lookB (dropB B c) d = if c = d then none else lookB B d := by
  induction B with
  | nil => simp [dropB, lookB]
  | cons x B ih =>
    obtain ⟨t, v⟩ := x
    unfold dropB
    by_cases h : Nat.beq t c = true
    · have e := Nat.eq_of_beq_eq_true h
      subst e
      rw [h]
      simp only [ih]
      split
      · rfl
      · rename_i hne
        simp only [lookB]
        rw [show Nat.beq t d = false by rw [Bool.eq_false_iff]; intro h; exact hne (Nat.eq_of_beq_eq_true h)]
    · rw [Bool.not_eq_true] at h
      rw [h]
      simp only [lookB]
      by_cases h2 : Nat.beq t d = true
      · have e := Nat.eq_of_beq_eq_true h2
        subst e
        rw [if_neg (fun e => by subst e; simp at h)]
        rw [h2]
      · rw [Bool.not_eq_true] at h2
        rw [h2]
        simpa using ih
theorem lookB_cons (B : BL) (c : Nat) (ch : Ch) (d : Nat) : lookB ((c, ch) :: B) d = if c = d then some ch else lookB B d := by
  simp only [lookB]
  by_cases h : c = d
  · subst h; simp
  · rw [if_neg h, show Nat.beq c d = false by rw [Bool.eq_false_iff]; intro e; exact h (Nat.eq_of_beq_eq_true e)]
theorem look_cons (K : KL) (c : Nat) (v : SV) (d : Nat) : look ((c, v) :: K) d = if c = d then v else look K d := by
  rw [look.eq_def]
  by_cases h : c = d
  · subst h; simp
  · simp only [if_neg h, show Nat.beq c d = false by rw [Bool.eq_false_iff]; intro e; exact h (Nat.eq_of_beq_eq_true e)]

/-- The slot s has v. -/
def At (a : Act) (s : Nat) (v : Value) : Prop := a.tmps.getD s undef = v
theorem At.eval {a : Act} {s : Nat} {v : Value} (h : At a s v) : a.eval (.tmp s) = v := h
theorem at_put_same {a : Act} {d : Nat} {v : Value} (h : d < a.tmps.size) : At (a.put (some d) v) d v := by simp [At, Act.put, h]
theorem at_put_other {a : Act} {d s : Nat} {v : Value} (h : d ≠ s) : a.tmps.getD s undef = (a.put (some d) v).tmps.getD s undef := by
  simp [Act.put, Array.getElem?_setIfInBounds_ne h]
theorem put_size {a : Act} {d : Option Nat} {v : Value} : (a.put d v).tmps.size = a.tmps.size := by cases d <;> simp [Act.put]
theorem put_defers {a : Act} {d : Option Nat} {v : Value} : (a.put d v).defers = a.defers := by cases d <;> simp [Act.put]

/-- Where a call begins: its world, the data that it may look into, the blocks that it was given, where they lie. -/
structure Ctx where
  w0 : World
  I0 : Nat → Prop
  F0 : Nat → Prop
  ρ0 : Nat → Pl
/-- The blocks that nobody writes. -/
def Imm (C : Ctx) (B : BL) (F : Nat → Nat → Prop) (w : World) : Nat → Prop := fun b =>
  b < w.heap.size ∧ (C.I0 b ∨ C.F0 b ∨ C.w0.heap.size ≤ b) ∧ ∀ c ch, lookB B c = some ch → ¬ F c b
structure Mem (ids : List Nat) (C : Ctx) (B : BL) (ρ : Nat → Pl) (F : Nat → Nat → Prop) (w : World) : Prop where
  fr : Fr C.F0 C.w0 w
  holds : ∀ c ch, lookB B c = some ch → Holds ρ (Imm C B F w) (F c) w (ρ c) ch
  own : ∀ c ch, lookB B c = some ch → ∀ b, F c b → b < w.heap.size ∧ (C.F0 b ∨ C.w0.heap.size ≤ b)
  disj : ∀ c c' ch ch' b, lookB B c = some ch → lookB B c' = some ch' → c ≠ c' → F c b → ¬ F c' b
  keep : ∀ c, c ∈ ids → ρ c = C.ρ0 c
def Slots (K : KL) (ρ : Nat → Pl) (I : Nat → Prop) (a : Act) (w : World) : Prop := ∀ s, DenV ρ I w (look K s) (a.tmps.getD s undef)
def Sat (N : Nat) (ids : List Nat) (C : Ctx) (K : KL) (B : BL) (a : Act) (w : World) : Prop :=
  a.tmps.size = N ∧ a.defers = [] ∧ ∃ ρ F, Mem ids C B ρ F w ∧ Slots K ρ (Imm C B F w) a w

/-- The step from one memory to the next: the blocks whose numbers are of M are given up, turned, or made; ρ turns for those of Nw alone, which nothing else names. -/
theorem Mem.step {ids : List Nat} {C : Ctx} {B B' : BL} {ρ ρ' : Nat → Pl} {F F' : Nat → Nat → Prop} {w w' : World} (h : Mem ids C B ρ F w) (M Nw : Nat → Prop)
    (hfr : Fr (fun b => ∃ c ch, lookB B c = some ch ∧ M c ∧ F c b) w w')
    (old : ∀ c ch, lookB B' c = some ch → ¬ M c → lookB B c = some ch)
    (hρ : ∀ c, ¬ Nw c → ρ' c = ρ c) (hF : ∀ c, ¬ M c → F' c = F c) (hids : ∀ c, c ∈ ids → ¬ Nw c)
    (hnw : ∀ c, Nw c → M c)
    (named : ∀ c ch, lookB B c = some ch → ¬ M c → ∀ d, ch.has d = true → ¬ Nw d)
    (new : ∀ c ch, lookB B' c = some ch → M c → Ext (Imm C B F w) w (Imm C B' F' w') w' → Holds ρ' (Imm C B' F' w') (F' c) w' (ρ' c) ch)
    (newF : ∀ c ch, lookB B' c = some ch → M c → ∀ b, F' c b → b < w'.heap.size ∧ ((∃ c0 ch0, lookB B c0 = some ch0 ∧ M c0 ∧ F c0 b) ∨ w.heap.size ≤ b))
    (newD : ∀ c c' ch ch' b, lookB B' c = some ch → lookB B' c' = some ch' → M c → M c' → c ≠ c' → F' c b → ¬ F' c' b) :
    Mem ids C B' ρ' F' w' ∧ Ext (Imm C B F w) w (Imm C B' F' w') w' := by
  have hz := h.fr.size
  have hext : Ext (Imm C B F w) w (Imm C B' F' w') w' := by
    rintro b ⟨h1, h2, h3⟩
    refine ⟨⟨Nat.lt_of_lt_of_le h1 hfr.size, h2, fun c ch hc => ?_⟩, hfr.block b h1 ?_⟩
    · by_cases hM : M c
      · intro hb
        obtain ⟨_, hb'⟩ := newF c ch hc hM b hb
        rcases hb' with ⟨c0, ch0, e1, _, e2⟩ | hb'
        · exact h3 c0 ch0 e1 e2
        · omega
      · rw [hF c hM]
        exact h3 c ch (old c ch hc hM)
    · rintro ⟨c, ch, e1, _, e2⟩
      exact h3 c ch e1 e2
  have hframe : ∀ c ch, lookB B c = some ch → ¬ M c → ∀ b, F c b → w'.heap[b]? = w.heap[b]? := fun c ch hc hM b hb =>
    hfr.block b (h.own c ch hc b hb).1 (by
      rintro ⟨c0, ch0, e1, e2, e3⟩
      exact h.disj c c0 ch ch0 b hc e1 (fun e => hM (e ▸ e2)) hb e3)
  refine ⟨⟨?_, ?_, ?_, ?_, ?_⟩, hext⟩
  · refine h.fr.trans hfr ?_
    rintro b hb ⟨c, ch, e1, _, e2⟩
    rcases (h.own c ch e1 b e2).2 with h' | h'
    · exact h'
    · omega
  · intro c ch hc
    by_cases hM : M c
    · exact new c ch hc hM hext
    · have ho := old c ch hc hM
      rw [hF c hM, hρ c (fun hn => hM (hnw c hn))]
      exact Holds.stable hext (hframe c ch ho hM) hfr.size ch (fun d hd => hρ d (named c ch ho hM d hd)) (h.holds c ch ho)
  · intro c ch hc b hb
    by_cases hM : M c
    · obtain ⟨h1, h2⟩ := newF c ch hc hM b hb
      refine ⟨h1, ?_⟩
      rcases h2 with ⟨c0, ch0, e1, _, e2⟩ | h2
      · exact (h.own c0 ch0 e1 b e2).2
      · exact .inr (Nat.le_trans hz h2)
    · rw [hF c hM] at hb
      obtain ⟨h1, h2⟩ := h.own c ch (old c ch hc hM) b hb
      exact ⟨Nat.lt_of_lt_of_le h1 hfr.size, h2⟩
  · intro c c' ch ch' b hc hc' hne hb hb'
    by_cases hM : M c
    · by_cases hM' : M c'
      · exact newD c c' ch ch' b hc hc' hM hM' hne hb hb'
      · rw [hF c' hM'] at hb'
        have ho' := old c' ch' hc' hM'
        rcases (newF c ch hc hM b hb).2 with ⟨c0, ch0, e1, e3, e2⟩ | h2
        · exact h.disj c0 c' ch0 ch' b e1 ho' (fun e => hM' (e ▸ e3)) e2 hb'
        · have := (h.own c' ch' ho' b hb').1; omega
    · rw [hF c hM] at hb
      have ho := old c ch hc hM
      by_cases hM' : M c'
      · rcases (newF c' ch' hc' hM' b hb').2 with ⟨c0, ch0, e1, e3, e2⟩ | h2
        · exact h.disj c0 c ch0 ch b e1 ho (fun e => hM (e ▸ e3)) e2 hb
        · have := (h.own c ch ho b hb).1; omega
      · rw [hF c' hM'] at hb'
        exact h.disj c c' ch ch' b ho (old c' ch' hc' hM') hne hb hb'
  · intro c hc
    rw [hρ c (hids c hc)]
    exact h.keep c hc
/-- Old blocks stay as they are. -/
theorem Mem.below {ids : List Nat} {C : Ctx} {B : BL} {ρ : Nat → Pl} {F : Nat → Nat → Prop} {w w' : World} (h : Mem ids C B ρ F w) (hb : Below w.heap.size w w') :
    Mem ids C B ρ F w' ∧ Ext (Imm C B F w) w (Imm C B F w') w' :=
  h.step (fun _ => False) (fun _ => False) (Fr.of_below hb) (fun _ _ h _ => h) (fun _ _ => rfl) (fun _ _ => rfl) (fun _ _ h => h) (fun _ h => h) (fun _ _ _ _ _ _ h => h) (fun _ _ _ h => h.elim) (fun _ _ _ h => h.elim) (fun _ _ _ _ _ _ _ h => h.elim)
theorem Slots.mono {K : KL} {ρ ρ' : Nat → Pl} {I I' : Nat → Prop} {a : Act} {w w' : World} (h : Slots K ρ I a w) (he : Ext I w I' w') (hρ : ∀ s c, (look K s).has c = true → ρ' c = ρ c) : Slots K ρ' I' a w' :=
  fun s => DenV.mono he _ _ (hρ s) (h s)
theorem Slots.put {K : KL} {ρ : Nat → Pl} {I : Nat → Prop} {a : Act} {w : World} (h : Slots K ρ I a w) {d : Nat} {v : SV} {x : Value} (hd : d < a.tmps.size) (hv : DenV ρ I w v x) : Slots ((d, v) :: K) ρ I (a.put (some d) x) w := fun s => by
  rw [look_cons]
  by_cases e : d = s
  · subst e
    rw [if_pos rfl, show (a.put (some d) x).tmps.getD d undef = x from at_put_same hd]
    exact hv
  · rw [if_neg e, ← at_put_other e]
    exact h s
def putK (d : Option Nat) (v : SV) (K : KL) : KL := match d with
  | some d => (d, v) :: K
  | none => K
theorem Slots.putO {K : KL} {ρ : Nat → Pl} {I : Nat → Prop} {a : Act} {w : World} (h : Slots K ρ I a w) {d : Option Nat} {v : SV} {x : Value} (hd : ∀ e, d = some e → e < a.tmps.size) (hv : DenV ρ I w v x) : Slots (putK d v K) ρ I (a.put d x) w := by
  cases d with
  | none => exact h
  | some d => exact h.put (hd d rfl) hv

/-! ### what a slot or a constant gives -/
def constS : Value → S1
  | .int k n => .d (.int k n)
  | .bool b => .d (.lit b)
  | .string s => .d (.str s.data.toList)
  | .slice none 0 0 => .nils
  | v => .raw v
theorem constS_den (ρ : Nat → Pl) (I : Nat → Prop) (w : World) (v : Value) : DenS ρ I w (constS v) v := by
  unfold constS
  split <;> simp [DenS, Den]
def constV : Value → SV
  | .agg cs => .c (.agg (cs.toList.map constS))
  | v => .c (.one (constS v))
theorem denL_const (ρ : Nat → Pl) (I : Nat → Prop) (w : World) : ∀ vs : List Value, DenL ρ I w (vs.map constS) vs
  | [] => rfl
  | v :: vs => ⟨v, vs, rfl, constS_den ρ I w v, denL_const ρ I w vs⟩
theorem constV_den (ρ : Nat → Pl) (I : Nat → Prop) (w : World) (v : Value) : DenV ρ I w (constV v) v := by
  unfold constV
  split
  · rename_i cs
    exact ⟨cs.toList, by simp, denL_const ρ I w _⟩
  · exact constS_den ρ I w v
def opv (K : KL) : Operand → SV
  | .tmp t => look K t
  | .const v => constV v
  | .func f => .c (.one (.raw (.func (.func f) #[] #[])))
  | .global g => .c (.one (.raw (.pointer (some ⟨g, 0, none⟩))))
theorem Slots.get {K : KL} {ρ : Nat → Pl} {I : Nat → Prop} {a : Act} {w : World} (h : Slots K ρ I a w) (x : Operand) : DenV ρ I w (opv K x) (a.eval x) := by
  cases x with
  | tmp t => exact h t
  | const v => exact constV_den ρ I w v
  | func f => rfl
  | global g => rfl
end Go.Proofs.Ythghcdddambaeaa
