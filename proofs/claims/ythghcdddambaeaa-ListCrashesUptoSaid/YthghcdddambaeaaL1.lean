/-
  The list's backups as data; find.
-/
import Derived.Test.YthghcdddambaeaaTbl
import Derived.Test.YthghcdddambaeaaPure
set_option linter.unusedVariables false
set_option linter.unusedSimpArgs false
set_option maxRecDepth 10000
namespace Go.Proofs.Ythghcdddambaeaa
open Go.RowKit Go.Proofs
/-- A piece: its cluster, its bytes. A backup: name, parent, bits, size, pieces. -/
@[reducible] def uP : U := .pr (.int .i64) (.sl .u8)
@[reducible] def uB : U := .pr .str (.pr .str (.pr (.int .i64) (.pr (.int .i64) (.sl uP))))
abbrev Pie : Type := El uP
abbrev Bup : Type := El uB
@[reducible] def pC (p : Pie) : Int := p.1
@[reducible] def pB (p : Pie) : List UInt8 := p.2
@[reducible] def bNm (b : Bup) : List UInt8 := b.1
@[reducible] def bPa (b : Bup) : List UInt8 := b.2.1
@[reducible] def bBits (b : Bup) : Int := b.2.2.1
@[reducible] def bSz (b : Bup) : Int := b.2.2.2.1
@[reducible] def bPc (b : Bup) : List Pie := b.2.2.2.2
@[reducible] def bkL (b : Bup) : List S1 := [.d (.str (bNm b)), .d (.str (bPa b)), .d (.int .i64 (bBits b)), .d (.int .i64 (bSz b)), .d (.lst uP (bPc b))]
@[reducible] def bkV (b : Bup) : SV := .c (.agg (bkL b))
/-- A list's blocks: 1001 the list, 1002 its backups. -/
@[reducible] def lstB (L : List Bup) : BL := [(1001, .cells [.own 1002]), (1002, .row 43 uB L)]

theorem findc_spec (b : Bup) (nm : List UInt8) : Fn Try.prog 108 [bkV b, vP 1001] [(1001, .cells [.d (.str nm)])] [] (vB (decide (bNm b = nm))) [(1001, .cells [.d (.str nm)])] := by
  refine Fn.of tblOK [] _ _ _ _ _ Try.func108 rfl rfl (by kernel_rfl) (by kernel_rfl) rfl (drawOK tblOK) rfl ?_
  refine ⟨rfl, ?_⟩
  exact ⟨_, _, _, Le.refl _ _, rfl, rfl, ⟨rfl, trivial⟩, rfl⟩
def ixL {α : Type} (p : α → Bool) (L : List α) : Int := match L.findIdx? p with
  | some k => (k : Nat)
  | none => -1
theorem ixL_at {α : Type} {p : α → Bool} {L : List α} {k : Nat} (h1 : k < L.length) (hp : ∀ (i : Nat) b, i < k → L[i]? = some b → p b = false) (h : p L[k] = true) : ixL p L = (k : Nat) := by
  unfold ixL
  rw [show L.findIdx? p = some k from List.findIdx?_eq_some_iff_getElem.2 ⟨h1, h, fun j hj => by simpa using hp j _ hj (List.getElem?_eq_getElem (by omega))⟩]
theorem ixL_none {α : Type} {p : α → Bool} {L : List α} (hp : ∀ (i : Nat) b, i < L.length → L[i]? = some b → p b = false) : ixL p L = -1 := by
  unfold ixL
  rw [show L.findIdx? p = none from List.findIdx?_eq_none_iff.2 fun x hx => by
    obtain ⟨i, hi, rfl⟩ := List.getElem_of_mem hx
    exact hp i _ hi (List.getElem?_eq_getElem hi)]
theorem ixL_cases {α : Type} (p : α → Bool) (L : List α) : (ixL p L = -1 ∧ ∀ (i : Nat) b, L[i]? = some b → p b = false) ∨ ∃ (k : Nat) (x : α), ixL p L = k ∧ L[k]? = some x ∧ p x = true ∧ ∀ (i : Nat) b, i < k → L[i]? = some b → p b = false := by
  unfold ixL
  cases h : L.findIdx? p with
  | none =>
    refine .inl ⟨rfl, fun i b hb => ?_⟩
    have := List.findIdx?_eq_none_iff.1 h b (List.mem_of_getElem? hb)
    simpa using this
  | some k =>
    obtain ⟨h1, h2, h3⟩ := List.findIdx?_eq_some_iff_getElem.1 h
    refine .inr ⟨k, L[k], rfl, List.getElem?_eq_getElem h1, h2, fun i b hi hb => ?_⟩
    have := h3 i hi
    rw [List.getElem?_eq_getElem (by omega)] at hb
    injection hb with hb
    rw [← hb]; simpa using this
theorem prefix_step {α : Type} {p : α → Prop} {L : List α} {k : Nat} (h1 : k < L.length) (hp : ∀ (i : Nat) b, i < k → L[i]? = some b → p b) (h : p L[k]) : ∀ (i : Nat) b, i < k + 1 → L[i]? = some b → p b := fun i b hi hb => by
  rcases Nat.lt_or_ge i k with h2 | h2
  · exact hp i b h2 hb
  · have : i = k := by omega
    subst this
    rw [List.getElem?_eq_getElem h1] at hb
    injection hb with hb
    rw [← hb]; exact h
theorem lget_at {α : Type} {L : List α} {k : Nat} {n : Int} (hn : n = (k : Nat)) (h : k < L.length) : lget L n.toNat = some L[k] := by
  subst hn
  exact List.getElem?_eq_getElem h
theorem ix_spec (g : Nat) (p : Bup → Bool) (nm : List UInt8) (L : List Bup) (hL : L.length ≤ 4294967296) (hs : ∀ b, Fn Try.prog g [bkV b, vP 1001] [(1001, .cells [.d (.str nm)])] [] (vB (p b)) [(1001, .cells [.d (.str nm)])]) :
    Fn Try.prog 107 [vOwn 1002, v1 (.clo g [.p 1001 0])] [(1001, .cells [.d (.str nm)]), (1002, .row 43 uB L)] [] (vI (ixL p L)) [(1001, .cells [.d (.str nm)]), (1002, .row 43 uB L)] := by
  refine Fn.of tblOK [] _ _ _ _ _ Try.func107 rfl rfl (by kernel_rfl) (by kernel_rfl) rfl (drawOK tblOK) rfl ?_
  show TrQ _ _ _ _ _ _ _
  refine TrQ.loop tblOK (drawOK tblOK) [] (by kernel_rfl) (X := Nat) (fun k => [(0, vOwn 1002), (1, v1 (.clo g [.p 1001 0])), (7, vI (L.length : Nat)), (8, vI (k : Nat))]) (fun _ => [(1001, .cells [.d (.str nm)]), (1002, .row 43 uB L)]) (fun k => k ≤ L.length ∧ ∀ (i : Nat) b, i < k → L[i]? = some b → p b = false) (fun k => L.length - k) 0 ⟨Nat.zero_le _, fun i b h => absurd h (Nat.not_lt_zero _)⟩ ?_ ?_
  · exact Le.sub ⟨rfl, rfl, rfl, rfl, trivial⟩ ⟨rfl, rfl, trivial⟩
  · rintro k ⟨hk, hp⟩
    refine ⟨fun h => ?_, fun h => ?_⟩
    · have h1 : k < L.length := by simpa using h
      refine ⟨⟨by omega, by omega⟩, ?_⟩
      refine ⟨L[k], lget_at rfl h1, ?_⟩
      refine ⟨_, _, _, _, hs L[k], ⟨rfl, trivial⟩, rfl, ?_⟩
      refine ⟨fun h => ?_, fun h => ?_⟩
      · exact ⟨_, _, _, Le.refl _ _, rfl, (ixL_at h1 hp h).symm, ⟨rfl, rfl, trivial⟩, rfl⟩
      · refine ⟨by omega, k + 1, ⟨by omega, prefix_step h1 hp h⟩, by omega, ?_⟩
        exact Le.sub ⟨rfl, rfl, rfl, rfl, trivial⟩ ⟨rfl, rfl, trivial⟩
    · have h1 : ¬ k < L.length := by simpa using h
      exact ⟨_, _, _, Le.refl _ _, rfl, (ixL_none fun i b hi hb => hp i b (by omega) hb).symm, ⟨rfl, rfl, trivial⟩, rfl⟩
/-- The place of a name. -/
def fnd (L : List Bup) (nm : List UInt8) : Int := ixL (fun b => decide (bNm b = nm)) L
theorem find_spec (nm : List UInt8) (L : List Bup) (hL : L.length ≤ 4294967296) : Fn Try.prog 56 [vP 1001, vS nm] (lstB L) [] (vI (fnd L nm)) (lstB L) := by
  refine Fn.of tblOK [] _ _ _ _ _ Try.func56 rfl rfl (by kernel_rfl) (by kernel_rfl) rfl (drawOK tblOK) rfl ?_
  refine ⟨rfl, ?_⟩
  refine ⟨_, _, _, _, Fn.ren [(1001, 3)] (ix_spec 108 _ nm L hL fun b => findc_spec b nm), ⟨rfl, rfl, trivial⟩, rfl, ?_⟩
  exact ⟨_, _, _, Le.refl _ _, rfl, rfl, ⟨rfl, rfl, trivial⟩, rfl⟩
end Go.Proofs.Ythghcdddambaeaa
/-
  Whether a backup may be, but for its parent.
-/
set_option linter.unusedVariables false
set_option linter.unusedSimpArgs false
set_option maxRecDepth 10000
namespace Go.Proofs.Ythghcdddambaeaa
open Go.RowKit Go.Proofs

/-- How many bytes a cluster has. -/
def clB (bits : Int) : Int := 16 * ((2 ^ bits.toNat : Nat) : Int)
theorem pow_bits {bi : Int} (h0 : 0 ≤ bi) (h1 : bi ≤ 3) : 1 ≤ ((2 ^ bi.toNat : Nat) : Int) ∧ ((2 ^ bi.toNat : Nat) : Int) ≤ 8 := by
  have : bi = 0 ∨ bi = 1 ∨ bi = 2 ∨ bi = 3 := by omega
  rcases this with rfl | rfl | rfl | rfl <;> decide
theorem clB_le {bi : Int} (h0 : 0 ≤ bi) (h1 : bi ≤ 3) : 16 ≤ clB bi ∧ clB bi ≤ 128 := by
  have := pow_bits h0 h1
  unfold clB
  omega
/-- Do the pieces rise, above 'last', below 'size', each of 'n' bytes? -/
def okP (size n : Int) : Int → List Pie → Bool
  | _, [] => true
  | last, p :: r => !(decide (pC p ≤ last) || decide (size ≤ pC p) || !decide (((pB p).length : Int) = n)) && okP size n (pC p) r
/-- Whether a backup may be, but for its parent. -/
def rightB (b : Bup) : Bool :=
  nameOK (bNm b) && decide (0 ≤ bBits b) && decide (bBits b ≤ 3) && decide (0 ≤ bSz b) && decide (bSz b ≤ 256) && okP (bSz b) (clB (bBits b)) (-1) (bPc b) &&
    (!decide (bPa b = []) || decide (((bPc b).length : Int) = bSz b))
theorem bytes_spec (b : Bup) (h0 : 0 ≤ bBits b) (h1 : bBits b ≤ 3) : Fn Try.prog 59 [bkV b] [] [] (vI (clB (bBits b))) [] := by
  have hp := pow_bits h0 h1
  refine Fn.of tblOK [] _ _ _ _ _ Try.func59 rfl rfl (by kernel_rfl) (by kernel_rfl) rfl (drawOK tblOK) rfl ?_
  refine ⟨rfl, ?_⟩
  refine ⟨⟨by omega, by omega, by omega⟩, ⟨by omega, by omega⟩, ?_⟩
  exact ⟨_, _, _, Le.refl _ _, rfl, rfl, trivial, rfl⟩
theorem okP_step (size n last : Int) (l : List Pie) (k : Nat) (hk : k < l.length) : okP size n last (l.drop k) = (!(decide (pC l[k] ≤ last) || decide (size ≤ pC l[k]) || !decide (((pB l[k]).length : Int) = n)) && okP size n (pC l[k]) (l.drop (k + 1))) := by
  rw [List.drop_eq_getElem_cons hk]
  rfl
set_option maxHeartbeats 1000000 in
theorem right_spec (b : Bup) (hn : (bNm b).length ≤ 4294967296) (hl : (bPc b).length ≤ 4294967296) (hp : ∀ p, p ∈ bPc b → (pB p).length ≤ 4294967296) : Fn Try.prog 57 [bkV b] [] [] (vB (rightB b)) [] := by
  refine Fn.of tblOK [] _ _ _ _ _ Try.func57 rfl rfl (by kernel_rfl) (by kernel_rfl) rfl (drawOK tblOK) rfl ?_
  refine ⟨rfl, ?_⟩
  refine ⟨_, _, _, _, files_Right_fn _ hn, trivial, rfl, ?_⟩
  refine ⟨fun h => ?_, fun h1 => ?_⟩
  · exact ⟨_, _, _, Le.refl _ _, rfl, (show false = rightB b by simp_all [rightB]), trivial, rfl⟩
  refine ⟨fun h => ?_, fun h2 => ?_⟩
  · exact ⟨_, _, _, Le.refl _ _, rfl, (show false = rightB b by simp at h; simp [rightB]; omega), trivial, rfl⟩
  refine ⟨fun h => ?_, fun h3 => ?_⟩
  · exact ⟨_, _, _, Le.refl _ _, rfl, (show false = rightB b by simp at h; simp [rightB]; omega), trivial, rfl⟩
  refine ⟨fun h => ?_, fun h4 => ?_⟩
  · exact ⟨_, _, _, Le.refl _ _, rfl, (show false = rightB b by simp at h; simp [rightB]; omega), trivial, rfl⟩
  refine ⟨fun h => ?_, fun h5 => ?_⟩
  · exact ⟨_, _, _, Le.refl _ _, rfl, (show false = rightB b by simp at h; simp [rightB]; omega), trivial, rfl⟩
  simp only [decide_eq_false_iff_not, Bool.not_eq_false'] at h1 h2 h3 h4 h5
  have hr : rightB b = (okP (bSz b) (clB (bBits b)) (-1) (bPc b) && (!decide (bPa b = []) || decide (((bPc b).length : Int) = bSz b))) := by
    unfold rightB
    rw [h1, decide_eq_true (show 0 ≤ bBits b by omega), decide_eq_true (show bBits b ≤ 3 by omega), decide_eq_true (show 0 ≤ bSz b by omega), decide_eq_true (show bSz b ≤ 256 by omega)]
    simp
  show TrQ _ _ _ _ _ _ _
  refine TrQ.loop tblOK (drawOK tblOK) [] (by kernel_rfl) (X := Nat × Int) (fun x => [(1, vP 1), (31, vL uP (bPc b)), (3, vI x.2), (32, vI ((bPc b).length : Nat)), (33, vI (x.1 : Nat))]) (fun _ => [(1, .cells (bkL b))]) (fun x => x.1 ≤ (bPc b).length ∧ okP (bSz b) (clB (bBits b)) (-1) (bPc b) = okP (bSz b) (clB (bBits b)) x.2 ((bPc b).drop x.1)) (fun x => (bPc b).length - x.1) (0, -1) ⟨Nat.zero_le _, rfl⟩ ?_ ?_
  · exact Le.sub ⟨rfl, rfl, rfl, rfl, rfl, trivial⟩ ⟨rfl, trivial⟩
  rintro ⟨k, last⟩ ⟨hk, hi⟩
  refine ⟨fun h => ?_, fun h => ?_⟩
  · have hk1 : k < (bPc b).length := by simpa using h
    rw [okP_step _ _ _ _ _ hk1] at hi
    have hpl := hp _ (List.getElem_mem hk1)
    refine ⟨by omega, (bPc b)[k], lget_at rfl hk1, rfl, ?_⟩
    refine ⟨fun h => ?_, fun h6 => ?_⟩
    · refine ⟨rfl, ?_⟩
      exact ⟨_, _, _, Le.refl _ _, rfl, (show false = rightB b by rw [hr, hi, h]; rfl), trivial, rfl⟩
    refine ⟨fun h => ?_, fun h7 => ?_⟩
    · refine ⟨rfl, ?_⟩
      exact ⟨_, _, _, Le.refl _ _, rfl, (show false = rightB b by rw [hr, hi, h6, h]; rfl), trivial, rfl⟩
    refine ⟨_, _, _, _, bytes_spec b (by omega) (by omega), trivial, rfl, rfl, ?_⟩
    refine ⟨fun h => ?_, fun h8 => ?_⟩
    · exact ⟨_, _, _, Le.refl _ _, rfl, (show false = rightB b by rw [hr, hi, h6, h7, show (!decide (((pB (bPc b)[k]).length : Int) = clB (bBits b))) = true from h]; rfl), trivial, rfl⟩
    · refine ⟨by omega, (k + 1, pC (bPc b)[k]), ⟨by simp only; omega, ?_⟩, by simp only; omega, ?_⟩
      · rw [hi, h6, h7, show (!decide (((pB (bPc b)[k]).length : Int) = clB (bBits b))) = false from h8]; rfl
      · exact Le.sub ⟨rfl, rfl, rfl, rfl, rfl, trivial⟩ ⟨rfl, trivial⟩
  · have hk1 : ¬ k < (bPc b).length := by simpa using h
    rw [List.drop_eq_nil_of_le (by omega)] at hi
    refine ⟨fun h => ?_, fun h => ?_⟩
    · exact ⟨_, _, _, Le.refl _ _, rfl, (show true = rightB b by rw [hr, hi, show (!decide (bPa b = [])) = true from h]; rfl), trivial, rfl⟩
    · exact ⟨_, _, _, Le.refl _ _, rfl, (show decide (((bPc b).length : Int) = bSz b) = rightB b by rw [hr, hi, show (!decide (bPa b = [])) = false from h]; rfl), trivial, rfl⟩
end Go.Proofs.Ythghcdddambaeaa
/-
  New, Last, Add.
-/
set_option linter.unusedVariables false
set_option linter.unusedSimpArgs false
set_option maxRecDepth 10000
namespace Go.Proofs.Ythghcdddambaeaa
open Go.RowKit Go.Proofs

theorem new_spec : Fn Try.prog 15 [] [] [1001, 1002] (vP 1001) (lstB []) := by
  refine Fn.of tblOK [] _ _ _ _ _ Try.func15 rfl rfl (by kernel_rfl) (by kernel_rfl) rfl (drawOK tblOK) rfl ?_
  refine ⟨rfl, ?_⟩
  exact ⟨_, _, _, Le.trans (Le.nilc 2 0 1002 43 uB rfl rfl rfl) (Le.ren 2 1001 rfl), rfl, rfl, ⟨rfl, rfl, trivial⟩, rfl⟩
/-- The last one's name. -/
def lastN (L : List Bup) : List UInt8 := match L.getLast? with
  | some b => bNm b
  | none => []
theorem last_spec (L : List Bup) (hL : L.length ≤ 4294967296) : Fn Try.prog 20 [vP 1001] (lstB L) [] (vS (lastN L)) (lstB L) := by
  refine Fn.of tblOK [] _ _ _ _ _ Try.func20 rfl rfl (by kernel_rfl) (by kernel_rfl) rfl (drawOK tblOK) rfl ?_
  refine ⟨fun h => ?_, fun h => ?_⟩
  · have h0 : L.length = 0 := by simp only [decide_eq_true_eq] at h; omega
    refine ⟨_, _, _, Le.refl _ _, rfl, ?_, ⟨rfl, rfl, trivial⟩, rfl⟩
    rw [List.eq_nil_of_length_eq_zero h0]
    rfl
  · have h0 : 0 < L.length := by simp only [decide_eq_false_iff_not] at h; omega
    have hlt : L.length - 1 < L.length := by omega
    refine ⟨by omega, ⟨by omega, by omega⟩, ?_⟩
    refine ⟨L[L.length - 1], lget_at (k := L.length - 1) (by omega) hlt, rfl, ?_⟩
    refine ⟨_, _, _, Le.refl _ _, rfl, ?_, ⟨rfl, rfl, trivial⟩, rfl⟩
    show bNm L[L.length - 1] = lastN L
    unfold lastN
    rw [List.getLast?_eq_getElem?, List.getElem?_eq_getElem hlt]
/-- What Add answers. -/
def addE (L : List Bup) (b : Bup) : Int :=
  if (!rightB b || decide (0 ≤ fnd L (bNm b)) || decide (64 ≤ (L.length : Int))) = true then 1
  else if (!decide (bPa b = []) && decide (fnd L (bPa b) < 0)) = true then 181
  else if (!decide (bPa b = []) && !decide ((match lget L (fnd L (bPa b)).toNat with | some x => bBits x | none => bBits b) = bBits b)) = true then 1 else 0
def addL (L : List Bup) (b : Bup) : List Bup := if addE L b = 0 then L ++ [b] else L
theorem addE_right {L : List Bup} {b : Bup} (h : (!rightB b) = true) : addE L b = 1 := by unfold addE; rw [if_pos (by simp [h])]
theorem addE_there {L : List Bup} {b : Bup} (h : decide (0 ≤ fnd L (bNm b)) = true) : addE L b = 1 := by unfold addE; rw [if_pos (by simp [h])]
theorem addE_many {L : List Bup} {b : Bup} (h : decide (64 ≤ (L.length : Int)) = true) : addE L b = 1 := by unfold addE; rw [if_pos (by simp [h])]
theorem rightB_small {b : Bup} (h : rightB b = true) : 0 ≤ bBits b ∧ bBits b ≤ 3 ∧ 0 ≤ bSz b ∧ bSz b ≤ 256 := by
  simp only [rightB, Bool.and_eq_true, decide_eq_true_eq] at h
  omega
/-- The blocks of a list behind Add: its backups have a new number. -/
@[reducible] def lstC (L : List Bup) : BL := [(1001, .cells [.own 1003]), (1003, .row 43 uB L)]
theorem take_step {α : Type} {l : List α} {k : Nat} (h : k < l.length) : l.take k ++ [l[k]] = l.take (k + 1) := by
  rw [List.take_add_one, List.getElem?_eq_getElem h]
  rfl
/-- Add's loop: k pieces are copied, into the row r. -/
@[reducible] def addK (b : Bup) (r k : Nat) : KL := [(0, vP 1001), (3, vP 3), (6, vOwn r), (58, vL uP (bPc b)), (59, vI ((bPc b).length : Nat)), (60, vI (k : Nat))]
@[reducible] def addB (L : List Bup) (b : Bup) (r : Nat) (l : List Pie) : BL := [(r, .row 111 uP l), (3, .cells (bkL b)), (1001, .cells [.own 1002]), (1002, .row 43 uB L)]
set_option maxHeartbeats 1000000 in
theorem add_spec (L : List Bup) (b : Bup) (hL : L.length ≤ 1000000) (hn : (bNm b).length ≤ 4294967296) (hl : (bPc b).length ≤ 1000000) (hp : ∀ p, p ∈ bPc b → (pB p).length ≤ 4294967296) :
    Fn Try.prog 18 [vP 1001, bkV b] (lstB L) [1003] (vI (addE L b)) (lstC (addL L b)) := by
  have hno : ∀ e, addE L b = e → e ≠ 0 → addL L b = L := fun e h1 h2 => by unfold addL; rw [if_neg (by omega)]
  refine Fn.of tblOK [14] _ _ _ _ _ Try.func18 rfl rfl (by kernel_rfl) (by kernel_rfl) rfl (drawOK tblOK) rfl ?_
  refine ⟨rfl, ?_⟩
  refine ⟨_, _, _, _, find_spec (bPa b) L (by omega), ⟨rfl, rfl, trivial⟩, rfl, ?_⟩
  refine ⟨_, _, _, _, right_spec b hn (by omega) hp, trivial, rfl, ?_⟩
  refine ⟨fun h => ?_, fun h1 => ?_⟩
  · rw [hno 1 (addE_right h) (by omega), addE_right h]
    exact ⟨_, _, _, Le.ren 1002 1003 rfl, rfl, rfl, ⟨rfl, rfl, trivial⟩, rfl⟩
  refine ⟨_, _, _, _, find_spec (bNm b) L (by omega), ⟨rfl, rfl, trivial⟩, rfl, ?_⟩
  refine ⟨fun h => ?_, fun h2 => ?_⟩
  · rw [hno 1 (addE_there h) (by omega), addE_there h]
    exact ⟨_, _, _, Le.ren 1002 1003 rfl, rfl, rfl, ⟨rfl, rfl, trivial⟩, rfl⟩
  refine ⟨fun h => ?_, fun h3 => ?_⟩
  · rw [hno 1 (addE_many h) (by omega), addE_many h]
    exact ⟨_, _, _, Le.ren 1002 1003 rfl, rfl, rfl, ⟨rfl, rfl, trivial⟩, rfl⟩
  have hE : addE L b = if (!decide (bPa b = []) && decide (fnd L (bPa b) < 0)) = true then 181 else if (!decide (bPa b = []) && !decide ((match lget L (fnd L (bPa b)).toNat with | some x => bBits x | none => bBits b) = bBits b)) = true then 1 else 0 := by
    unfold addE
    rw [if_neg (by rw [show (!rightB b) = false from h1, show decide (0 ≤ fnd L (bNm b)) = false from h2, show decide (64 ≤ (L.length : Int)) = false from h3]; simp)]
  have hr : rightB b = true := by simpa using h1
  obtain ⟨r1, r2, r3, r4⟩ := rightB_small hr
  have hadd : addE L b = 0 → addL L b = L ++ [b] := fun h => by unfold addL; rw [if_pos h]
  refine ⟨fun h4 => ?a, fun h4 => ?b⟩
  case' a =>
    refine ⟨fun h => ?_, fun h5 => ?_⟩
    · rw [show (!decide (bPa b = [])) = true from h4, show decide (fnd L (bPa b) < 0) = true from h] at hE
      have hE : addE L b = 181 := hE
      rw [hno 181 hE (by omega), hE]
      exact ⟨_, _, _, Le.ren 1002 1003 rfl, rfl, rfl, ⟨rfl, rfl, trivial⟩, rfl⟩
    have h6 : ¬ fnd L (bPa b) < 0 := by simpa using h5
    have hk : ∃ k : Nat, ∃ hk : k < L.length, fnd L (bPa b) = (k : Nat) := by
      rcases ixL_cases (fun x => decide (bNm x = bPa b)) L with ⟨h, _⟩ | ⟨k, x, h, hx, _⟩
      · exact absurd (show fnd L (bPa b) < 0 by unfold fnd; omega) h6
      · exact ⟨k, (List.getElem?_eq_some_iff.1 hx).1, h⟩
    obtain ⟨k, hk, hfk⟩ := hk
    rw [show (!decide (bPa b = [])) = true from h4, show decide (fnd L (bPa b) < 0) = false from h5, lget_at hfk hk] at hE
    have hE : addE L b = if (!decide (bBits L[k] = bBits b)) = true then 1 else 0 := hE
    refine ⟨fun h7 => ?_, fun h7 => absurd h4 (by rw [show (!decide (bPa b = [])) = false from h7]; simp)⟩
    refine ⟨⟨by omega, by omega⟩, L[k], lget_at hfk hk, ?_⟩
    refine ⟨rfl, fun h => ?_, fun h => ?_⟩
    · rw [show (!decide (bBits L[k] = bBits b)) = true from h] at hE
      have hE : addE L b = 1 := hE
      rw [hno 1 hE (by omega), hE]
      exact ⟨_, _, _, Le.ren 1002 1003 rfl, rfl, rfl, ⟨rfl, rfl, trivial⟩, rfl⟩
    rw [show (!decide (bBits L[k] = bBits b)) = false from h] at hE
    have hA : addE L b = 0 := hE
    clear hE h
  case' b =>
    rw [show (!decide (bPa b = [])) = false from h4] at hE
    have hA : addE L b = 0 := hE
    clear hE
    refine ⟨fun h7 => absurd h4 (by rw [show (!decide (bPa b = [])) = true from h7]; simp), fun h7 => ?_⟩
    refine ⟨rfl, ?_⟩
  all_goals
    rw [hadd hA, hA]
    show TrQ _ _ _ _ _ _ _
    refine TrQ.loop tblOK (drawOK tblOK) [14] (by kernel_rfl) (X := Nat) (addK b 2002) (fun k => addB L b 2002 ((bPc b).take k)) (fun k => k ≤ (bPc b).length) (fun k => (bPc b).length - k) 0 (Nat.zero_le _) ?_ ?_
    · exact Le.trans (Le.nil 6 2002 111 uP rfl rfl) (Le.sub ⟨rfl, rfl, rfl, rfl, rfl, rfl, trivial⟩ ⟨rfl, rfl, rfl, rfl, trivial⟩)
    intro j hj
    refine ⟨fun h => ?_, fun h => ?_⟩
    · have hj1 : j < (bPc b).length := by simpa using h
      have hpl := hp _ (List.getElem_mem hj1)
      refine ⟨by omega, (bPc b)[j], lget_at rfl hj1, rfl, ?_⟩
      refine ⟨_, _, _, _, clone_fn _ hpl, trivial, rfl, ?_⟩
      refine ⟨?_, rfl, rfl, ?_⟩
      · show ((bPc b).take j).length + 1 ≤ 4294967296
        rw [List.length_take]; omega
      · refine ⟨by omega, j + 1, hj1, by omega, ?_⟩
        exact Le.trans (Le.sub (K' := addK b 72 (j + 1)) (B' := addB L b 72 ((bPc b).take (j + 1))) ⟨rfl, rfl, rfl, rfl, rfl, rfl, trivial⟩ ⟨congrArg (fun l => some (Ch.row _ uP l)) (take_step hj1), rfl, rfl, rfl, trivial⟩) (Le.ren 72 2002 rfl)
    · have hj1 : j = (bPc b).length := by have : ¬ j < (bPc b).length := by simpa using h
                                          omega
      subst hj1
      show TrQ _ _ _ _ _ _ _
      refine TrQ.go tblOK (drawOK tblOK) [] (by kernel_rfl) (Le.trans (Le.sub (K' := addK b 2002 (bPc b).length) (B' := addB L b 2002 (bPc b)) ⟨rfl, rfl, rfl, rfl, rfl, rfl, trivial⟩ ⟨congrArg (fun l => some (Ch.row _ uP l)) List.take_length, rfl, rfl, rfl, trivial⟩) (Le.frz 2002 rfl)) ?_
      refine ⟨?_, rfl, rfl, ?_⟩
      · show L.length + 1 ≤ 4294967296
        omega
      · exact ⟨_, _, _, Le.ren 83 1003 rfl, rfl, rfl, ⟨rfl, rfl, trivial⟩, rfl⟩
end Go.Proofs.Ythghcdddambaeaa
/-
  Restore.
-/
set_option linter.unusedVariables false
set_option linter.unusedSimpArgs false
set_option maxRecDepth 10000
namespace Go.Proofs.Ythghcdddambaeaa
open Go.RowKit Go.Proofs

theorem okP_mem (size n : Int) : ∀ (l : List Pie) (last : Int), okP size n last l = true → ∀ p, p ∈ l → last < pC p ∧ pC p < size ∧ ((pB p).length : Int) = n
  | [], _, _, p, hp => by cases hp
  | q :: l, last, h, p, hp => by
    simp only [okP, Bool.and_eq_true, Bool.not_eq_true', Bool.or_eq_false_iff, decide_eq_false_iff_not, Bool.not_eq_false', decide_eq_true_eq] at h
    obtain ⟨⟨⟨h1, h2⟩, h3⟩, h4⟩ := h
    rcases List.mem_cons.1 hp with rfl | hp
    · exact ⟨by omega, by omega, h3⟩
    · have := okP_mem size n l (pC q) h4 p hp
      exact ⟨by omega, this.2.1, this.2.2⟩
/-- A piece is laid over. -/
def layP (cl : Int) (acc : List UInt8) (p : Pie) : List UInt8 := laid acc (pC p * cl).toNat (acc.length - (pC p * cl).toNat) (pB p)
/-- The disk of a backup, over the one below. -/
def diskB (b : Bup) (below : List UInt8) : List UInt8 :=
  let z := List.replicate (bSz b * clB (bBits b)).toNat (0 : UInt8)
  (bPc b).foldl (layP (clB (bBits b))) (if decide (bPa b = []) = true then z else laid z 0 z.length below)
def lgetI (L : List Bup) (i : Int) : Option Bup := if 0 ≤ i then lget L i.toNat else none
/-- What is restored of a name, if of the parent's is restored what 'pr' says. -/
def restS (L : List Bup) (nm : List UInt8) (pr : List UInt8 → List UInt8) : List UInt8 := match lgetI L (fnd L nm) with
  | none => []
  | some b => diskB b (pr (bPa b))
def restE (L : List Bup) (nm : List UInt8) : Int := if decide (fnd L nm < 0) = true then 181 else 0
def vRest (out : List UInt8) (e : Int) : SV := .tup [.one (.d (.lst .u8 out)), .one (.d (.int .i64 e))]
theorem layP_length {size cl : Int} {b : List UInt8} {p : Pie} (h0 : 0 ≤ cl) (h1 : 0 ≤ pC p) (h2 : pC p < size) (hb : b.length = (size * cl).toNat) : (pC p * cl).toNat ≤ b.length ∧ (layP cl b p).length = b.length := by
  have : pC p * cl ≤ size * cl := Int.mul_le_mul_of_nonneg_right (by omega) h0
  have h3 : (pC p * cl).toNat ≤ b.length := by omega
  exact ⟨h3, laid_length _ _ (by omega)⟩
theorem layN_length {size cl : Int} (h0 : 0 ≤ cl) : ∀ (l : List Pie) (acc : List UInt8), (∀ p, p ∈ l → 0 ≤ pC p ∧ pC p < size) → acc.length = (size * cl).toNat → (l.foldl (layP cl) acc).length = (size * cl).toNat
  | [], acc, _, ha => ha
  | p :: l, acc, hp, ha => layN_length h0 l (layP cl acc p) (fun q hq => hp q (List.mem_cons_of_mem _ hq)) (by
      have := hp p List.mem_cons_self
      rw [(layP_length h0 this.1 this.2 ha).2, ha])
theorem foldl_step {α β : Type} (f : β → α → β) (x : β) {l : List α} {k : Nat} (h : k < l.length) : (l.take (k + 1)).foldl f x = f ((l.take k).foldl f x) l[k] := by
  rw [← take_step h, List.foldl_append]
  rfl
/-- Restore's loop. -/
@[reducible] def resK (b : Bup) (k : Nat) : KL := [(7, vP 7), (8, vOwn 30), (45, vL uP (bPc b)), (46, vI ((bPc b).length : Nat)), (47, vI (k : Nat))]
@[reducible] def resB (L : List Bup) (b : Bup) (x : List UInt8) : BL := [(30, .row 5 .u8 x), (7, .cells (bkL b)), (1001, .cells [.own 1002]), (1002, .row 43 uB L)]
set_option maxHeartbeats 1000000 in
theorem restore_step (L : List Bup) (nm : List UInt8) (hL : L.length ≤ 1000000) (hr : ∀ b, b ∈ L → rightB b = true ∧ (bPc b).length ≤ 1000000) (pr : List UInt8 → List UInt8)
    (ih : ∀ b, lgetI L (fnd L nm) = some b → (!decide (bPa b = [])) = true → Fn Try.prog 21 [vP 1001, vS (bPa b)] (lstB L) [] (vRest (pr (bPa b)) (restE L (bPa b))) (lstB L)) :
    Fn Try.prog 21 [vP 1001, vS nm] (lstB L) [] (vRest (restS L nm pr) (restE L nm)) (lstB L) := by
  refine Fn.of tblOK [] _ _ _ _ _ Try.func21 rfl rfl (by kernel_rfl) (by kernel_rfl) rfl (drawOK tblOK) rfl ?_
  refine ⟨_, _, _, _, find_spec nm L (by omega), ⟨rfl, rfl, trivial⟩, rfl, ?_⟩
  refine ⟨fun h => ?_, fun h => ?_⟩
  · have h1 : ¬ 0 ≤ fnd L nm := by simp only [decide_eq_true_eq] at h; omega
    exact ⟨_, _, _, Le.refl _ _, rfl, ⟨(show restS L nm pr = [] by unfold restS lgetI; rw [if_neg h1]), (show (181 : Int) = restE L nm by unfold restE; rw [if_pos h]), trivial⟩, ⟨rfl, rfl, trivial⟩, rfl⟩
  have hf : ¬ fnd L nm < 0 := by simpa using h
  have hk : ∃ k : Nat, ∃ hk : k < L.length, fnd L nm = (k : Nat) := by
    rcases ixL_cases (fun x => decide (bNm x = nm)) L with ⟨h, _⟩ | ⟨k, x, h, hx, _⟩
    · exact absurd (show fnd L nm < 0 by unfold fnd; omega) hf
    · exact ⟨k, (List.getElem?_eq_some_iff.1 hx).1, h⟩
  obtain ⟨k, hk, hfk⟩ := hk
  have hg : lgetI L (fnd L nm) = some L[k] := by unfold lgetI; rw [if_pos (by omega)]; exact lget_at hfk hk
  have hE : restE L nm = 0 := by unfold restE; rw [if_neg (by rw [h]; simp)]
  have hS : restS L nm pr = diskB L[k] (pr (bPa L[k])) := by unfold restS; rw [hg]
  have ih := ih _ hg
  rw [hE, hS]
  refine ⟨⟨by omega, by omega⟩, L[k], lget_at hfk hk, ?_⟩
  obtain ⟨hrb, hpl⟩ := hr _ (List.getElem_mem hk)
  generalize hbk : L[k] = b at *
  obtain ⟨r1, r2, r3, r4⟩ := rightB_small hrb
  obtain ⟨c1, c2⟩ := clB_le r1 r2
  have hmul : 0 ≤ bSz b * clB (bBits b) ∧ bSz b * clB (bBits b) ≤ 32768 := ⟨Int.mul_nonneg (by omega) (by omega), by
    have : bSz b * clB (bBits b) ≤ 256 * 128 := Int.mul_le_mul r4 c2 (by omega) (by omega)
    omega⟩
  have hz : (List.replicate (bSz b * clB (bBits b)).toNat (0 : UInt8)).length = (bSz b * clB (bBits b)).toNat := List.length_replicate
  have hpm : ∀ p, p ∈ bPc b → 0 ≤ pC p ∧ pC p < bSz b := fun p hp => by
    have hrb := hrb
    simp only [rightB, Bool.and_eq_true] at hrb
    have := okP_mem _ _ _ _ hrb.1.2 p hp
    omega
  refine ⟨rfl, ?_⟩
  refine ⟨_, _, _, _, bytes_spec b r1 r2, trivial, rfl, ?_⟩
  have hmulA : -9223372036854775808 ≤ bSz b * clB (bBits b) ∧ bSz b * clB (bBits b) ≤ 9223372036854775807 := by omega
  have hmulB : bSz b * clB (bBits b) ≤ 4294967296 := by omega
  refine ⟨hmulA, ⟨rfl, hmul.1, hmulB⟩, rfl, rfl, ?_⟩
  refine ⟨fun h4 => ?a, fun h4 => ?b⟩
  case' a =>
    refine ⟨_, _, _, _, ih h4, ⟨rfl, rfl, trivial⟩, rfl, ?_⟩
    refine ⟨by omega, ?_⟩
    have hb : ∃ y, diskB b (pr (bPa b)) = (bPc b).foldl (layP (clB (bBits b))) y ∧ y = laid (List.replicate (bSz b * clB (bBits b)).toNat (0 : UInt8)) 0 (List.replicate (bSz b * clB (bBits b)).toNat (0 : UInt8)).length (pr (bPa b)) ∧ y.length = (bSz b * clB (bBits b)).toNat := ⟨_, by
      unfold diskB
      simp only
      rw [show decide (bPa b = []) = false by simpa using h4]
      rfl, rfl, (laid_length _ _ (by omega)).trans hz⟩
    obtain ⟨y, hd, hy, hyl⟩ := hb
  case' b =>
    have hb : ∃ y, diskB b (pr (bPa b)) = (bPc b).foldl (layP (clB (bBits b))) y ∧ y = (List.replicate (bSz b * clB (bBits b)).toNat (0 : UInt8)) ∧ y.length = (bSz b * clB (bBits b)).toNat := ⟨_, by
      unfold diskB
      simp only
      rw [show decide (bPa b = []) = true by simpa using h4]
      rfl, rfl, hz⟩
    obtain ⟨y, hd, hy, hyl⟩ := hb
  all_goals
    rw [hd]
    show TrQ _ _ _ _ _ _ _
    refine TrQ.loop tblOK (drawOK tblOK) [] (by kernel_rfl) (X := Nat) (resK b) (fun k => resB L b (((bPc b).take k).foldl (layP (clB (bBits b))) y)) (fun k => k ≤ (bPc b).length) (fun k => (bPc b).length - k) 0 (Nat.zero_le _) ?_ ?_
    · exact Le.sub ⟨rfl, rfl, rfl, rfl, rfl, trivial⟩ ⟨congrArg (fun l => some (Ch.row _ .u8 l)) hy.symm, rfl, rfl, rfl, trivial⟩
    intro j hj
    refine ⟨fun h => ?_, fun h => ?_⟩
    · have hj1 : j < (bPc b).length := by simpa using h
      have hpj := hpm _ (List.getElem_mem hj1)
      have hacc : (((bPc b).take j).foldl (layP (clB (bBits b))) y).length = (bSz b * clB (bBits b)).toNat := layN_length (by omega) _ _ (fun p hp => hpm p (List.mem_of_mem_take hp)) (by omega)
      obtain ⟨q1, q2⟩ := layP_length (by omega) hpj.1 hpj.2 hacc
      have hq0 : 0 ≤ pC (bPc b)[j] * clB (bBits b) := Int.mul_nonneg hpj.1 (by omega)
      have hqA : -9223372036854775808 ≤ pC (bPc b)[j] * clB (bBits b) ∧ pC (bPc b)[j] * clB (bBits b) ≤ 9223372036854775807 := by omega
      refine ⟨by omega, (bPc b)[j], lget_at rfl hj1, rfl, ?_⟩
      refine ⟨_, _, _, _, bytes_spec b r1 r2, trivial, rfl, ?_⟩
      refine ⟨hqA, ⟨hq0, ?_⟩, ?_⟩
      · show pC (bPc b)[j] * clB (bBits b) ≤ ((((bPc b).take j).foldl (layP (clB (bBits b))) y).length : Int)
        omega
      refine ⟨?_, rfl, ?_⟩
      · show (pC (bPc b)[j] * clB (bBits b)).toNat + ((((bPc b).take j).foldl (layP (clB (bBits b))) y).length - (pC (bPc b)[j] * clB (bBits b)).toNat) ≤ (((bPc b).take j).foldl (layP (clB (bBits b))) y).length
        omega
      · refine ⟨by omega, j + 1, hj1, by omega, ?_⟩
        exact Le.sub ⟨rfl, rfl, rfl, rfl, rfl, trivial⟩ ⟨congrArg (fun l => some (Ch.row _ .u8 l)) (foldl_step (layP (clB (bBits b))) y hj1).symm, rfl, rfl, rfl, trivial⟩
    · have hj1 : j = (bPc b).length := by have : ¬ j < (bPc b).length := by simpa using h
                                          omega
      subst hj1
      exact ⟨_, _, _, Le.trans (Le.frz 30 rfl) (Le.refl _ _), rfl, ⟨(show ((bPc b).take (bPc b).length).foldl (layP (clB (bBits b))) y = (bPc b).foldl (layP (clB (bBits b))) y by rw [List.take_length]), rfl, trivial⟩, ⟨rfl, rfl, trivial⟩, rfl⟩
def restB (L : List Bup) : Nat → List UInt8 → List UInt8
  | 0, _ => []
  | n + 1, nm => restS L nm (restB L n)
/-- What a list always is: who may not be is not there; parents come first. -/
structure InvL (L : List Bup) : Prop where
  len : L.length ≤ 64
  right : ∀ b, b ∈ L → rightB b = true
  par : ∀ (k : Nat) b, L[k]? = some b → decide (bPa b = []) = false → 0 ≤ fnd L (bPa b) ∧ fnd L (bPa b) < k
theorem right_few {b : Bup} (h : rightB b = true) : (bPc b).length ≤ 256 := by
  have h2 := rightB_small h
  simp only [rightB, Bool.and_eq_true] at h
  have key : ∀ (l : List Pie) (last : Int), okP (bSz b) (clB (bBits b)) last l = true → (l.length : Int) ≤ max 0 (bSz b - 1 - last) := by
    intro l
    induction l with
    | nil => intro last _; simp only [List.length_nil]; omega
    | cons p l ih =>
      intro last h
      simp only [okP, Bool.and_eq_true, Bool.not_eq_true', Bool.or_eq_false_iff, decide_eq_false_iff_not] at h
      have := ih _ h.2
      simp only [List.length_cons]
      omega
  have := key _ _ h.1.2
  omega
theorem fnd_lt (L : List Bup) (nm : List UInt8) : fnd L nm < L.length := by
  rcases ixL_cases (fun x => decide (bNm x = nm)) L with ⟨h, _⟩ | ⟨k, x, h, hx, _⟩
  · unfold fnd; omega
  · have := (List.getElem?_eq_some_iff.1 hx).1
    unfold fnd; omega
theorem lgetI_some {L : List Bup} {i : Int} {b : Bup} (h : lgetI L i = some b) : ∃ k : Nat, i = k ∧ L[k]? = some b := by
  unfold lgetI at h
  split at h
  · exact ⟨i.toNat, by omega, h⟩
  · cases h
theorem restore_fuel {L : List Bup} (hI : InvL L) : ∀ (n : Nat) (nm : List UInt8), fnd L nm < n → Fn Try.prog 21 [vP 1001, vS nm] (lstB L) [] (vRest (restB L n nm) (restE L nm)) (lstB L) := by
  have hL : L.length ≤ 1000000 := by have := hI.len; omega
  have hr : ∀ b, b ∈ L → rightB b = true ∧ (bPc b).length ≤ 1000000 := fun b hb => ⟨hI.right b hb, by have := right_few (hI.right b hb); omega⟩
  intro n
  induction n with
  | zero =>
    intro nm h
    have h0 : lgetI L (fnd L nm) = none := by unfold lgetI; rw [if_neg (by omega)]
    have := restore_step L nm hL hr (fun _ => []) (fun b hb => by rw [h0] at hb; cases hb)
    rw [show restS L nm (fun _ => []) = [] by unfold restS; rw [h0]] at this
    exact this
  | succ n ih =>
    intro nm h
    exact restore_step L nm hL hr (restB L n) (fun b hb hp => ih (bPa b) (by
      obtain ⟨k, hk, hb⟩ := lgetI_some hb
      have := (hI.par k b hb (by simpa using hp)).2
      omega))
/-- What is restored of a name. -/
def restL (L : List Bup) (nm : List UInt8) : List UInt8 := restB L (L.length + 1) nm
theorem restore_spec {L : List Bup} (hI : InvL L) (nm : List UInt8) : Fn Try.prog 21 [vP 1001, vS nm] (lstB L) [] (vRest (restL L nm) (restE L nm)) (lstB L) :=
  restore_fuel hI _ nm (by have := fnd_lt L nm; omega)
end Go.Proofs.Ythghcdddambaeaa
