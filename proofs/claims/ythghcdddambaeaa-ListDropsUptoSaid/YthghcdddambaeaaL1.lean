/-
  The list's backups as data; find.
-/
import Derived.Test.YthghcdddambaeaaTbl
import Derived.Test.YthghcdddambaeaaPure
set_option linter.unusedVariables false
set_option linter.unusedSimpArgs false
set_option maxRecDepth 10000
namespace Go.Proofs.Ythghcdddambaeaa
open Go.RowKit Go.Proofs
/-- A piece: its cluster, its bytes. A backup: name, parent, bits, size, pieces. -/
@[reducible] def uP : U := .pr (.int .i64) (.sl .u8)
@[reducible] def uB : U := .pr .str (.pr .str (.pr (.int .i64) (.pr (.int .i64) (.sl uP))))
abbrev Pie : Type := El uP
abbrev Bup : Type := El uB
@[reducible] def pC (p : Pie) : Int := p.1
@[reducible] def pB (p : Pie) : List UInt8 := p.2
@[reducible] def bNm (b : Bup) : List UInt8 := b.1
@[reducible] def bPa (b : Bup) : List UInt8 := b.2.1
@[reducible] def bBits (b : Bup) : Int := b.2.2.1
@[reducible] def bSz (b : Bup) : Int := b.2.2.2.1
@[reducible] def bPc (b : Bup) : List Pie := b.2.2.2.2
@[reducible] def bkL (b : Bup) : List S1 := [.d (.str (bNm b)), .d (.str (bPa b)), .d (.int .i64 (bBits b)), .d (.int .i64 (bSz b)), .d (.lst uP (bPc b))]
@[reducible] def bkV (b : Bup) : SV := .c (.agg (bkL b))
/-- A list's blocks: 1001 the list, 1002 its backups. -/
@[reducible] def lstB (L : List Bup) : BL := [(1001, .cells [.own 1002]), (1002, .row 43 uB L)]

theorem findc_spec (b : Bup) (nm : List UInt8) : Fn Try.prog 108 [bkV b, vP 1001] [(1001, .cells [.d (.str nm)])] [] (vB (decide (bNm b = nm))) [(1001, .cells [.d (.str nm)])] := by
  refine Fn.of tblOK [] _ _ _ _ _ Try.func108 rfl rfl (by kernel_rfl) (by kernel_rfl) rfl (drawOK tblOK) rfl ?_
  refine ⟨rfl, ?_⟩
  exact ⟨_, _, _, Le.refl _ _, rfl, rfl, ⟨rfl, trivial⟩, rfl⟩
def ixL {α : Type} (p : α → Bool) (L : List α) : Int := match L.findIdx? p with
  | some k => (k : Nat)
  | none => -1
theorem ixL_at {α : Type} {p : α → Bool} {L : List α} {k : Nat} (h1 : k < L.length) (hp : ∀ (i : Nat) b, i < k → L[i]? = some b → p b = false) (h : p L[k] = true) : ixL p L = (k : Nat) := by
  unfold ixL
  rw [show L.findIdx? p = some k from List.findIdx?_eq_some_iff_getElem.2 ⟨h1, h, fun j hj => by simpa using hp j _ hj (List.getElem?_eq_getElem (by omega))⟩]
theorem ixL_none {α : Type} {p : α → Bool} {L : List α} (hp : ∀ (i : Nat) b, i < L.length → L[i]? = some b → p b = false) : ixL p L = -1 := by
  unfold ixL
  rw [show L.findIdx? p = none from List.findIdx?_eq_none_iff.2 fun x hx => by
    obtain ⟨i, hi, rfl⟩ := List.getElem_of_mem hx
    exact hp i _ hi (List.getElem?_eq_getElem hi)]
theorem ixL_cases {α : Type} (p : α → Bool) (L : List α) : (ixL p L = -1 ∧ ∀ (i : Nat) b, L[i]? = some b → p b = false) ∨ ∃ (k : Nat) (x : α), ixL p L = k ∧ L[k]? = some x ∧ p x = true ∧ ∀ (i : Nat) b, i < k → L[i]? = some b → p b = false := by
  unfold ixL
  cases h : L.findIdx? p with
  | none =>
    refine .inl ⟨rfl, fun i b hb => ?_⟩
    have := List.findIdx?_eq_none_iff.1 h b (List.mem_of_getElem? hb)
    simpa using this
  | some k =>
    obtain ⟨h1, h2, h3⟩ := List.findIdx?_eq_some_iff_getElem.1 h
    refine .inr ⟨k, L[k], rfl, List.getElem?_eq_getElem h1, h2, fun i b hi hb => ?_⟩
    have := h3 i hi
    rw [List.getElem?_eq_getElem (by omega)] at hb
    injection hb with hb
    rw [← hb]; simpa using this
theorem prefix_step {α : Type} {p : α → Prop} {L : List α} {k : Nat} (h1 : k < L.length) (hp : ∀ (i : Nat) b, i < k → L[i]? = some b → p b) (h : p L[k]) : ∀ (i : Nat) b, i < k + 1 → L[i]? = some b → p b := fun i b hi hb => by
  rcases Nat.lt_or_ge i k with h2 | h2
  · exact hp i b h2 hb
  · have : i = k := by omega
    subst this
    rw [List.getElem?_eq_getElem h1] at hb
    injection hb with hb
    rw [← hb]; exact h
theorem lget_at {α : Type} {L : List α} {k : Nat} {n : Int} (hn : n = (k : Nat)) (h : k < L.length) : lget L n.toNat = some L[k] := by
  subst hn
  exact List.getElem?_eq_getElem h
theorem ix_spec (g : Nat) (p : Bup → Bool) (nm : List UInt8) (L : List Bup) (hL : L.length ≤ 4294967296) (hs : ∀ b, Fn Try.prog g [bkV b, vP 1001] [(1001, .cells [.d (.str nm)])] [] (vB (p b)) [(1001, .cells [.d (.str nm)])]) :
    Fn Try.prog 107 [vOwn 1002, v1 (.clo g [.p 1001 0])] [(1001, .cells [.d (.str nm)]), (1002, .row 43 uB L)] [] (vI (ixL p L)) [(1001, .cells [.d (.str nm)]), (1002, .row 43 uB L)] := by
  refine Fn.of tblOK [] _ _ _ _ _ Try.func107 rfl rfl (by kernel_rfl) (by kernel_rfl) rfl (drawOK tblOK) rfl ?_
  show TrQ _ _ _ _ _ _ _
  refine TrQ.loop tblOK (drawOK tblOK) [] (by kernel_rfl) (X := Nat) (fun k => [(0, vOwn 1002), (1, v1 (.clo g [.p 1001 0])), (7, vI (L.length : Nat)), (8, vI (k : Nat))]) (fun _ => [(1001, .cells [.d (.str nm)]), (1002, .row 43 uB L)]) (fun k => k ≤ L.length ∧ ∀ (i : Nat) b, i < k → L[i]? = some b → p b = false) (fun k => L.length - k) 0 ⟨Nat.zero_le _, fun i b h => absurd h (Nat.not_lt_zero _)⟩ ?_ ?_
  · exact Le.sub ⟨rfl, rfl, rfl, rfl, trivial⟩ ⟨rfl, rfl, trivial⟩
  · rintro k ⟨hk, hp⟩
    refine ⟨fun h => ?_, fun h => ?_⟩
    · have h1 : k < L.length := by simpa using h
      refine ⟨⟨by omega, by omega⟩, ?_⟩
      refine ⟨L[k], lget_at rfl h1, ?_⟩
      refine ⟨_, _, _, _, hs L[k], ⟨rfl, trivial⟩, rfl, ?_⟩
      refine ⟨fun h => ?_, fun h => ?_⟩
      · exact ⟨_, _, _, Le.refl _ _, rfl, (ixL_at h1 hp h).symm, ⟨rfl, rfl, trivial⟩, rfl⟩
      · refine ⟨by omega, k + 1, ⟨by omega, prefix_step h1 hp h⟩, by omega, ?_⟩
        exact Le.sub ⟨rfl, rfl, rfl, rfl, trivial⟩ ⟨rfl, rfl, trivial⟩
    · have h1 : ¬ k < L.length := by simpa using h
      exact ⟨_, _, _, Le.refl _ _, rfl, (ixL_none fun i b hi hb => hp i b (by omega) hb).symm, ⟨rfl, rfl, trivial⟩, rfl⟩
/-- The place of a name. -/
def fnd (L : List Bup) (nm : List UInt8) : Int := ixL (fun b => decide (bNm b = nm)) L
theorem find_spec (nm : List UInt8) (L : List Bup) (hL : L.length ≤ 4294967296) : Fn Try.prog 56 [vP 1001, vS nm] (lstB L) [] (vI (fnd L nm)) (lstB L) := by
  refine Fn.of tblOK [] _ _ _ _ _ Try.func56 rfl rfl (by kernel_rfl) (by kernel_rfl) rfl (drawOK tblOK) rfl ?_
  refine ⟨rfl, ?_⟩
  refine ⟨_, _, _, _, Fn.ren [(1001, 3)] (ix_spec 108 _ nm L hL fun b => findc_spec b nm), ⟨rfl, rfl, trivial⟩, rfl, ?_⟩
  exact ⟨_, _, _, Le.refl _ _, rfl, rfl, ⟨rfl, rfl, trivial⟩, rfl⟩
end Go.Proofs.Ythghcdddambaeaa
