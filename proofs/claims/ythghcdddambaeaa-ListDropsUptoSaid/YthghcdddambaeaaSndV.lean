/-
  Soundness of the conditions: operations on values.
-/
import Derived.Test.YthghcdddambaeaaSnd
set_option linter.unusedVariables false
set_option linter.unusedSimpArgs false
namespace Go.Proofs.Ythghcdddambaeaa
open Go.RowKit

section
variable {P : Program} {tt : Tr} {N : Nat} {ids : List Nat} {o : Oper} {K : KL} {B : BL} {k : SV → Eff → Prop}
theorem OpOK.one {x : Operand} {sx v : SV} (hx : opv K x = sx) (hm : x ∈ o.op.operands)
    (h : ∀ (K' : KL) (ρ : Nat → Pl) (I : Nat → Prop) (a : Act) (w : World), Slots K' ρ I a w → opv K' x = sx → ∃ r, (execOp a.eval o).run P w = .ok (.value r) w ∧ DenV ρ I w v r) : OpOK P N ids o K B v e0 :=
  OpOK.val fun K' B' h1 h2 C ρ F a w hM hS => h K' ρ _ a w hS ((h1 x hm).trans hx)
theorem OpOK.two {x y : Operand} {sx sy v : SV} (hx : opv K x = sx) (hy : opv K y = sy) (hm : x ∈ o.op.operands) (hn : y ∈ o.op.operands)
    (h : ∀ (K' : KL) (ρ : Nat → Pl) (I : Nat → Prop) (a : Act) (w : World), Slots K' ρ I a w → opv K' x = sx → opv K' y = sy → ∃ r, (execOp a.eval o).run P w = .ok (.value r) w ∧ DenV ρ I w v r) : OpOK P N ids o K B v e0 :=
  OpOK.val fun K' B' h1 h2 C ρ F a w hM hS => h K' ρ _ a w hS ((h1 x hm).trans hx) ((h1 y hn).trans hy)
theorem or_i64 {a b : Int} (h1 : 0 ≤ a) (h2 : a ≤ 9223372036854775807) (h3 : 0 ≤ b) (h4 : b ≤ 9223372036854775807) :
    IntKind.i64.wrap (((BitVec.ofInt 64 a ||| BitVec.ofInt 64 b).toNat : Nat) : Int) = ((a.toNat ||| b.toNat : Nat) : Int) := by
  have e1 : (BitVec.ofInt 64 a).toNat = a.toNat := by rw [BitVec.toNat_ofInt]; omega
  have e2 : (BitVec.ofInt 64 b).toNat = b.toNat := by rw [BitVec.toNat_ofInt]; omega
  rw [BitVec.toNat_or, e1, e2]
  have h : a.toNat ||| b.toNat < 2 ^ 63 := Nat.or_lt_two_pow (by omega) (by omega)
  exact wrap_in (by simp only [inK]; omega)
theorem vcBin_sound {op : BinOp} {T T2 : TypeId} {x y : Operand} (ho : o.op = .binOp op T x y T2)
    (hp : (∃ e, P.underlying T = some (.pointer e)) ∨ ∀ c d, opv K x ≠ .c (.one (.ptr c d)) ∧ opv K x ≠ .c (.one (.raw (.pointer none))))
    (h : vcBin op (opv K x) (opv K y) k) : ∃ v, k v e0 ∧ OpOK P N ids o K B v e0 := by
  have m1 : x ∈ o.op.operands := by rw [ho]; exact mem2.1
  have m2 : y ∈ o.op.operands := by rw [ho]; exact mem2.2
  unfold vcBin at h
  split at h
  · rename_i i a j b hx hy
    have two : ∀ (v : SV) (hv : i = j → ∀ (K' : KL) (ρ : Nat → Pl) (I : Nat → Prop) (ac : Act) (w : World), ac.eval x = .int i a → ac.eval y = .int i b → ∃ r, (execOp ac.eval o).run P w = .ok (.value r) w ∧ DenV ρ I w v r), eqK i j = true → OpOK P N ids o K B v e0 := fun v hv hij =>
      OpOK.two hx hy m1 m2 fun K' ρ I ac w hS e1 e2 => hv (eqK_eq hij) K' ρ I ac w (hS.int e1) (by rw [eqK_eq hij]; exact hS.int e2)
    have sh : ∀ (v : SV) (hv : ∀ (K' : KL) (ρ : Nat → Pl) (I : Nat → Prop) (ac : Act) (w : World), ac.eval x = .int i a → ac.eval y = .int j b → ∃ r, (execOp ac.eval o).run P w = .ok (.value r) w ∧ DenV ρ I w v r), OpOK P N ids o K B v e0 := fun v hv =>
      OpOK.two hx hy m1 m2 fun K' ρ I ac w hS e1 e2 => hv K' ρ I ac w (hS.int e1) (hS.int e2)
    split at h
    · rename_i hij; have h := rng_and h; exact ⟨_, h.2, two _ (fun _ K' ρ I ac w h1 h2 => ⟨_, bin_int ho h1 h2 (.inl ⟨rfl, rfl⟩) h.1, rfl⟩) hij⟩
    · rename_i hij; have h := rng_and h; exact ⟨_, h.2, two _ (fun _ K' ρ I ac w h1 h2 => ⟨_, bin_int ho h1 h2 (.inr (.inl ⟨rfl, rfl⟩)) h.1, rfl⟩) hij⟩
    · rename_i hij; have h := rng_and h; exact ⟨_, h.2, two _ (fun _ K' ρ I ac w h1 h2 => ⟨_, bin_int ho h1 h2 (.inr (.inr ⟨rfl, rfl⟩)) h.1, rfl⟩) hij⟩
    · rename_i hij; have h' := rng_and h.2; exact ⟨_, h'.2, two _ (fun _ K' ρ I ac w h1 h2 => ⟨_, bin_div ho h1 h2 h.1.1 h.1.2 (.inl ⟨rfl, rfl⟩) h'.1, rfl⟩) hij⟩
    · rename_i hij; have h' := rng_and h.2; exact ⟨_, h'.2, two _ (fun _ K' ρ I ac w h1 h2 => ⟨_, bin_div ho h1 h2 h.1.1 h.1.2 (.inr ⟨rfl, rfl⟩) h'.1, rfl⟩) hij⟩
    · split at h
      · rename_i hi
        have := eqK_eq hi
        subst this
        have h' := rng_and h.2
        exact ⟨_, h'.2, sh _ fun K' ρ I ac w h1 h2 => ⟨_, bin_shift ho h1 h2 h.1.1 h.1.2.1 (by simp [IntKind.bits]; have := h.1.2.2; omega) (.inl ⟨rfl, rfl⟩) (fun _ => h'.1), rfl⟩⟩
      · exact h.elim
    · split at h
      · rename_i hi
        have := eqK_eq hi
        subst this
        exact ⟨_, h.2, sh _ fun K' ρ I ac w h1 h2 => ⟨_, bin_shift ho h1 h2 h.1.1 h.1.2.1 (by simp [IntKind.bits]; have := h.1.2.2; omega) (.inr ⟨rfl, rfl⟩) (fun e => by cases e), rfl⟩⟩
      · exact h.elim
    · rename_i hij
      split at h
      · rename_i hi
        have := eqK_eq hi
        subst this
        refine ⟨_, h.2, two _ (fun hj K' ρ I ac w h1 h2 => ⟨_, ?_, rfl⟩) hij⟩
        have e := or_i64 h.1.1 h.1.2.1 h.1.2.2.1 h.1.2.2.2
        have hs : Op.intBits .or .i64 a b = pure (.int .i64 ((a.toNat ||| b.toNat : Nat) : Int)) := by
          exact congrArg (fun z : Int => (pure (Value.int .i64 z) : Sem Value)) e
        simp only [execOp, ho, h1, h2, eqGuard, binOp, hs]
        simp [go_sem]
      · exact h.elim
    · rename_i hij; exact ⟨_, h, two _ (fun _ K' ρ I ac w h1 h2 => ⟨_, bin_cmp ho h1 h2 (.inl ⟨rfl, rfl⟩), rfl⟩) hij⟩
    · rename_i hij; exact ⟨_, h, two _ (fun _ K' ρ I ac w h1 h2 => ⟨_, bin_cmp ho h1 h2 (.inr (.inl ⟨rfl, rfl⟩)), rfl⟩) hij⟩
    · rename_i hij; exact ⟨_, h, two _ (fun _ K' ρ I ac w h1 h2 => ⟨_, bin_cmp ho h1 h2 (.inr (.inr (.inl ⟨rfl, rfl⟩))), rfl⟩) hij⟩
    · rename_i hij; exact ⟨_, h, two _ (fun _ K' ρ I ac w h1 h2 => ⟨_, bin_cmp ho h1 h2 (.inr (.inr (.inr (.inl ⟨rfl, rfl⟩)))), rfl⟩) hij⟩
    · rename_i hij; exact ⟨_, h, two _ (fun _ K' ρ I ac w h1 h2 => ⟨_, bin_cmp ho h1 h2 (.inr (.inr (.inr (.inr (.inl ⟨rfl, rfl⟩))))), rfl⟩) hij⟩
    · rename_i hij; exact ⟨_, h, two _ (fun _ K' ρ I ac w h1 h2 => ⟨_, bin_cmp ho h1 h2 (.inr (.inr (.inr (.inr (.inr ⟨rfl, rfl⟩))))), rfl⟩) hij⟩
    · exact h.elim
  · rename_i s t hx hy
    have two : ∀ (v : SV) (hv : ∀ (K' : KL) (ρ : Nat → Pl) (I : Nat → Prop) (ac : Act) (w : World), ac.eval x = .string ⟨s.toArray⟩ → ac.eval y = .string ⟨t.toArray⟩ → ∃ r, (execOp ac.eval o).run P w = .ok (.value r) w ∧ DenV ρ I w v r), OpOK P N ids o K B v e0 := fun v hv =>
      OpOK.two hx hy m1 m2 fun K' ρ I ac w hS e1 e2 => hv K' ρ I ac w (hS.str e1) (hS.str e2)
    split at h
    · exact ⟨_, h.2, two _ fun K' ρ I ac w h1 h2 => ⟨_, bin_cat ho h1 h2 h.1, rfl⟩⟩
    · exact ⟨_, h, two _ fun K' ρ I ac w h1 h2 => ⟨_, bin_str ho h1 h2 (.inl ⟨rfl, rfl⟩), rfl⟩⟩
    · exact ⟨_, h, two _ fun K' ρ I ac w h1 h2 => ⟨_, bin_str ho h1 h2 (.inr (.inl ⟨rfl, rfl⟩)), rfl⟩⟩
    · exact ⟨_, h, two _ fun K' ρ I ac w h1 h2 => ⟨_, bin_str ho h1 h2 (.inr (.inr (.inl ⟨rfl, rfl⟩))), rfl⟩⟩
    · exact ⟨_, h, two _ fun K' ρ I ac w h1 h2 => ⟨_, bin_str ho h1 h2 (.inr (.inr (.inr (.inl ⟨rfl, rfl⟩)))), rfl⟩⟩
    · exact ⟨_, h, two _ fun K' ρ I ac w h1 h2 => ⟨_, bin_str ho h1 h2 (.inr (.inr (.inr (.inr (.inl ⟨rfl, rfl⟩))))), rfl⟩⟩
    · exact ⟨_, h, two _ fun K' ρ I ac w h1 h2 => ⟨_, bin_str ho h1 h2 (.inr (.inr (.inr (.inr (.inr ⟨rfl, rfl⟩))))), rfl⟩⟩
    · exact h.elim
  · rename_i c d hx hy
    obtain ⟨e, hu⟩ := hp.resolve_right fun h => (h c d).1 hx
    have q : ∀ (p : Addr) (w : World), (Op.equalIn (9999 + 1) T (.pointer (some p)) (.pointer none)).run P w = .ok false w := fun p w => by
      unfold Op.equalIn
      simp [run_underlying hu]
    split at h
    · refine ⟨_, h, OpOK.two hx hy m1 m2 fun K' ρ I ac w hS e1 e2 => ⟨_, ?_, rfl⟩⟩
      simp only [execOp, ho, hS.ptr e1, hS.raw e2]
      simp [eqGuard, binOp, Op.equal, Op.maxDepth, q]
    · refine ⟨_, h, OpOK.two hx hy m1 m2 fun K' ρ I ac w hS e1 e2 => ⟨_, ?_, rfl⟩⟩
      simp only [execOp, ho, hS.ptr e1, hS.raw e2]
      simp [eqGuard, binOp, Op.equal, Op.maxDepth, q]
    · exact h.elim
  · rename_i hx hy
    obtain ⟨e, hu⟩ := hp.resolve_right fun h => (h 0 0).2 hx
    have q : ∀ (w : World), (Op.equalIn (9999 + 1) T (.pointer none) (.pointer none)).run P w = .ok true w := fun w => by
      unfold Op.equalIn
      simp [run_underlying hu]
    split at h
    · refine ⟨_, h, OpOK.two hx hy m1 m2 fun K' ρ I ac w hS e1 e2 => ⟨_, ?_, rfl⟩⟩
      simp only [execOp, ho, hS.raw e1, hS.raw e2]
      simp [eqGuard, binOp, Op.equal, Op.maxDepth, q]
    · refine ⟨_, h, OpOK.two hx hy m1 m2 fun K' ρ I ac w hS e1 e2 => ⟨_, ?_, rfl⟩⟩
      simp only [execOp, ho, hS.raw e1, hS.raw e2]
      simp [eqGuard, binOp, Op.equal, Op.maxDepth, q]
    · exact h.elim
  · exact h.elim
theorem vcBB_sound {op : BinOp} {T T2 : TypeId} {x y : Operand} (ho : o.op = .binOp op T x y T2) (hu : P.underlying T = some .bool) {a : Bool} (hx : opv K x = .c (.one (.d (.bool a))) ∨ opv K x = .c (.one (.d (.lit a))))
    (h : vcBB op a (opv K y) k) : ∃ v, k v e0 ∧ OpOK P N ids o K B v e0 := by
  have m1 : x ∈ o.op.operands := by rw [ho]; exact mem2.1
  have m2 : y ∈ o.op.operands := by rw [ho]; exact mem2.2
  have q : ∀ (a b : Bool) (w : World), (Op.equalIn (9999 + 1) T (.bool a) (.bool b)).run P w = .ok (a == b) w := fun a b w => by
    unfold Op.equalIn
    simp [run_underlying hu]
  have key : ∀ (b : Bool) (r : Bool), (opv K y = .c (.one (.d (.bool b))) ∨ opv K y = .c (.one (.d (.lit b)))) → (op = .eql ∧ r = (a == b)) ∨ (op = .neq ∧ r = !(a == b)) → OpOK P N ids o K B (.c (.one (.d (.bool r)))) e0 := fun b r hy hr =>
    OpOK.val fun K' B' h1 h2 C ρ F ac w hM hS => by
      have ex : ac.eval x = .bool a := by
        have := hS.get x
        rw [h1 x m1] at this
        rcases hx with hx | hx <;> (rw [hx] at this; exact this)
      have ey : ac.eval y = .bool b := by
        have := hS.get y
        rw [h1 y m2] at this
        rcases hy with hy | hy <;> (rw [hy] at this; exact this)
      refine ⟨.bool r, ?_, rfl⟩
      rcases hr with ⟨rfl, rfl⟩ | ⟨rfl, rfl⟩ <;> (simp only [execOp, ho, ex, ey]; simp [eqGuard, binOp, Op.equal, Op.maxDepth, q])
  unfold vcBB at h
  split at h
  · exact ⟨_, h, key _ _ (.inl ‹_›) (.inl ⟨rfl, rfl⟩)⟩
  · exact ⟨_, h, key _ _ (.inr ‹_›) (.inl ⟨rfl, rfl⟩)⟩
  · exact ⟨_, h, key _ _ (.inl ‹_›) (.inr ⟨rfl, rfl⟩)⟩
  · exact ⟨_, h, key _ _ (.inr ‹_›) (.inr ⟨rfl, rfl⟩)⟩
  · exact h.elim
end
end Go.Proofs.Ythghcdddambaeaa
