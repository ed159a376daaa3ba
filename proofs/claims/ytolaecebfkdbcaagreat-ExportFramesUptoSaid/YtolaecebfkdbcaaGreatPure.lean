/-
  Contracts that were walked by hand: functions that write nothing of the caller's.
-/
import Derived.Test.YtolaecebfkdbcaaGreatCode
import Derived.Test.YtolaecebfkdbcaaGreatClone
import Derived.Test.YtolaecebfkdbcaaGreatNames
set_option linter.unusedVariables false
set_option linter.unusedSimpArgs false
namespace Go.Proofs.YtolaecebfkdbcaaGreat
open Go.RowKit

theorem Fn.pure {P : Program} {f : FuncId} {args : List SV} {res : SV} (hcall : callable P f = true)
    (h : ∀ (ρ : Nat → Pl) (I : Nat → Prop) (w : World) (vals : List Value), (∀ b, I b → b < w.heap.size) → vals.length = args.length → (∀ (i : Nat) (v : SV) (x : Value), args[i]? = some v → vals[i]? = some x → DenV ρ I w v x) →
      Calls P f vals.toArray w fun e w' => ∃ x, e = .returned x ∧ Below w.heap.size w w' ∧ ∀ I' : Nat → Prop, Ext I w I' w' → (∀ b, w.heap.size ≤ b → b < w'.heap.size → I' b) → DenV ρ I' w' res x) : Fn P f args [] [] res [] := by
  refine ⟨hcall, ?_⟩
  intro ρ F I w vals hI _ _ _ hlen hden
  refine (h ρ I w vals hI hlen hden).mono ?_
  rintro e w' ⟨x, rfl, hb, hx⟩
  have hE : Ext I w (fun b => b < w'.heap.size ∧ (I b ∨ w.heap.size ≤ b)) w' := fun b hbI => ⟨⟨Nat.lt_of_lt_of_le (hI b hbI) hb.size, .inl hbI⟩, hb.block b (hI b hbI)⟩
  exact ⟨x, ρ, F, rfl, Fr.of_below hb, fun _ _ => rfl, _, hE, fun b h => ⟨h.1, h.2.imp id .inr⟩, fun c ch hc => (by simp [lookB] at hc), fun c ch hc => (by simp [lookB] at hc), fun c c' ch ch' b hc => (by simp [lookB] at hc), hx _ hE fun b h1 h2 => ⟨h2, .inr h1⟩⟩
theorem one_arg {P : Program} {f : FuncId} {s : SV} {res : SV} (hcall : callable P f = true)
    (h : ∀ (ρ : Nat → Pl) (I : Nat → Prop) (w : World) (v : Value), (∀ b, I b → b < w.heap.size) → DenV ρ I w s v →
      Calls P f #[v] w fun e w' => ∃ x, e = .returned x ∧ Below w.heap.size w w' ∧ ∀ I' : Nat → Prop, Ext I w I' w' → (∀ b, w.heap.size ≤ b → b < w'.heap.size → I' b) → DenV ρ I' w' res x) : Fn P f [s] [] [] res [] :=
  Fn.pure hcall fun ρ I w vals hI hl hd => by
    match vals, hl with
    | [v], _ => exact h ρ I w v hI (hd 0 s v rfl rfl)
theorem DenU.bytes {I : Nat → Prop} {w : World} {v : Value} {l : List UInt8} (hI : ∀ b, I b → b < w.heap.size) (h : DenU I w (.sl .u8) l (fun _ => some v)) : Bytes I w v l := by
  obtain ⟨A, cap, h0, h1, h2, h3⟩ := h
  injection h0 with h0
  refine ⟨by simp, A, cap, h0, h1, h2, fun hp => ?_⟩
  obtain ⟨b, o, hA, hb, hx⟩ := h3 hp
  refine ⟨b, o, hA, hb, hI b hb, fun j u hu => ?_⟩
  rw [List.getElem?_map] at hu
  obtain ⟨x, hx1, rfl⟩ := Option.map_eq_some_iff.1 hu
  have := hx j x hx1
  simpa [DenU, sz, byteV] using this
theorem Bytes.denU {I D : Nat → Prop} {w : World} {v : Value} {l : List UInt8} (h : Bytes D w v l) (hD : ∀ b, b < w.heap.size → D b → I b) : DenU I w (.sl .u8) l (fun _ => some v) := by
  obtain ⟨_, A, cap, h0, h1, h2, h3⟩ := h
  refine ⟨A, cap, congrArg some h0, h1, h2, fun hp => ?_⟩
  obtain ⟨b, o, hA, hb, hlt, hx⟩ := h3 hp
  refine ⟨b, o, hA, hD b hlt hb, fun i x hi => ?_⟩
  have := hx i (byteV x) (by rw [List.getElem?_map, show l[i]? = some x from hi]; rfl)
  simpa [DenU, sz, byteV] using this

/-- Whether a name may be. -/
def nameOK (s : List UInt8) : Bool := decide (1 ≤ s.length) && decide (s.length ≤ 15) && s.all signB
theorem files_Right_fn (s : List UInt8) (hs : s.length ≤ 4294967296) : Fn Tryz.prog 53 [vS s] [] [] (vB (nameOK s)) [] :=
  one_arg (by kernel_rfl) fun ρ I w v hI hv => by
    rw [show v = .string ⟨s.toArray⟩ from hv]
    refine (files_Right ⟨s.toArray⟩ w (by simp only [ByteArray.size, maxLen, List.size_toArray]; omega)).mono ?_
    rintro e w' ⟨rfl, hb⟩
    exact ⟨_, rfl, hb, fun I' _ _ => show Value.bool _ = Value.bool _ by simp [rightN, nameOK, ByteArray.size]⟩
theorem clone_fn (l : List UInt8) (hs : l.length ≤ 4294967296) : Fn Tryz.prog 120 [vL .u8 l] [] [] (vL .u8 l) [] :=
  one_arg (by kernel_rfl) fun ρ I w v hI hv => by
    refine (clone_bytes v l I w (DenU.bytes hI hv) hs).mono ?_
    rintro e w' ⟨x, rfl, hx, hb⟩
    exact ⟨x, rfl, hb, fun I' _ hn => hx.denU fun b h1 h2 => hn b h2 h1⟩
end Go.Proofs.YtolaecebfkdbcaaGreat
