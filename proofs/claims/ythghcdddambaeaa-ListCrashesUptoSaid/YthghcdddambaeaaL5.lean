/-
  The document's backups as data; own.
-/
import Derived.Test.YthghcdddambaeaaL1
set_option linter.unusedVariables false
set_option linter.unusedSimpArgs false
set_option maxRecDepth 10000
namespace Go.Proofs.Ythghcdddambaeaa
open Go.RowKit Go.Proofs

/-- The document's piece and backup: the bytes are a text. -/
@[reducible] def uRP : U := .pr (.int .i64) .str
@[reducible] def uRB : U := .pr .str (.pr .str (.pr (.int .i64) (.pr (.int .i64) (.sl uRP))))
abbrev RPie : Type := El uRP
abbrev RBup : Type := El uRB
@[reducible] def rC (p : RPie) : Int := p.1
@[reducible] def rB (p : RPie) : List UInt8 := p.2
@[reducible] def rNm (b : RBup) : List UInt8 := b.1
@[reducible] def rPa (b : RBup) : List UInt8 := b.2.1
@[reducible] def rBits (b : RBup) : Int := b.2.2.1
@[reducible] def rSz (b : RBup) : Int := b.2.2.2.1
@[reducible] def rPc (b : RBup) : List RPie := b.2.2.2.2
@[reducible] def rbL (b : RBup) : List S1 := [.d (.str (rNm b)), .d (.str (rPa b)), .d (.int .i64 (rBits b)), .d (.int .i64 (rSz b)), .d (.lst uRP (rPc b))]
@[reducible] def rbV (b : RBup) : SV := .c (.agg (rbL b))
def pieOf (p : RPie) : Pie := (rC p, rB p)
/-- The program's backup of the document's. -/
def ownOf (b : RBup) : Bup := (rNm b, rPa b, rBits b, rSz b, (rPc b).map pieOf)
@[reducible] def ownK (b : RBup) (r k : Nat) : KL := [(1, vP 1), (2, vP 2), (3, vP 3), (16, vL uRP (rPc b)), (17, vI ((rPc b).length : Nat)), (18, vI (k : Nat))]
@[reducible] def ownB (b : RBup) (r : Nat) (l : List Pie) : BL := [(r, .row 111 uP l), (3, .cells [.d (.str (rNm b)), .d (.str (rPa b)), .d (.int .i64 (rBits b)), .d (.int .i64 (rSz b)), .own r]), (2, .cells tbl.t43.zero)]
theorem map_take_step {α β : Type} (f : α → β) {l : List α} {k : Nat} (h : k < l.length) : (l.take k).map f ++ [f l[k]] = (l.take (k + 1)).map f := by
  rw [← take_step h, List.map_append]
  rfl
set_option maxHeartbeats 1000000 in
theorem own_spec (b : RBup) (hl : (rPc b).length ≤ 1000000) (hp : ∀ p, p ∈ rPc b → (rB p).length ≤ 4294967296) : Fn Try.prog 19 [rbV b] [] [] (bkV (ownOf b)) [] := by
  refine Fn.of tblOK [7] _ _ _ _ _ Try.func19 rfl rfl (by kernel_rfl) (by kernel_rfl) rfl (drawOK tblOK) rfl ?_
  refine ⟨rfl, rfl, rfl, ?_⟩
  show TrQ _ _ _ _ _ _ _
  refine TrQ.loop tblOK (drawOK tblOK) [7] (by kernel_rfl) (X := Nat) (ownK b 2002) (fun k => ownB b 2002 (((rPc b).take k).map pieOf)) (fun k => k ≤ (rPc b).length) (fun k => (rPc b).length - k) 0 (Nat.zero_le _) ?_ ?_
  · exact Le.trans (Le.nilc 3 4 2002 111 uP rfl rfl rfl) (Le.sub ⟨rfl, rfl, rfl, rfl, rfl, rfl, trivial⟩ ⟨rfl, rfl, rfl, trivial⟩)
  intro j hj
  refine ⟨fun h => ?_, fun h => ?_⟩
  · have hj1 : j < (rPc b).length := by simpa using h
    have hpl := hp _ (List.getElem_mem hj1)
    refine ⟨by omega, (rPc b)[j], lget_at rfl hj1, rfl, ?_⟩
    refine ⟨hpl, ?_, rfl, ?_⟩
    · show (((rPc b).take j).map pieOf).length + 1 ≤ 4294967296
      rw [List.length_map, List.length_take]; omega
    refine ⟨by omega, j + 1, hj1, by omega, ?_⟩
    exact Le.trans (Le.sub (K' := ownK b 31 (j + 1)) (B' := ownB b 31 (((rPc b).take (j + 1)).map pieOf)) ⟨rfl, rfl, rfl, rfl, rfl, rfl, trivial⟩ ⟨congrArg (fun l => some (Ch.row _ uP l)) (map_take_step pieOf hj1), rfl, rfl, trivial⟩) (Le.ren 31 2002 rfl)
  · have hj1 : j = (rPc b).length := by have : ¬ j < (rPc b).length := by simpa using h
                                        omega
    subst hj1
    show TrQ _ _ _ _ _ _ _
    refine TrQ.go tblOK (drawOK tblOK) [] (by kernel_rfl) (Le.trans (Le.sub (K' := ownK b 2002 (rPc b).length) (B' := ownB b 2002 ((rPc b).map pieOf)) ⟨rfl, rfl, rfl, rfl, rfl, rfl, trivial⟩ ⟨congrArg (fun l => some (Ch.row _ uP (List.map pieOf l))) List.take_length, rfl, rfl, trivial⟩) (Le.frz 2002 rfl)) ?_
    exact ⟨_, _, _, Le.refl _ _, rfl, ⟨rfl, rfl, rfl, rfl, rfl, trivial⟩, trivial, rfl⟩
end Go.Proofs.Ythghcdddambaeaa
/-
  ContainsFunc; a Drop that is refused; piece.
-/
set_option linter.unusedVariables false
set_option linter.unusedSimpArgs false
set_option maxRecDepth 10000
namespace Go.Proofs.Ythghcdddambaeaa
open Go.RowKit Go.Proofs

theorem dropc_spec (b : Bup) (nm : List UInt8) : Fn Try.prog 62 [bkV b, vP 1001] [(1001, .cells [.d (.str nm)])] [] (vB (decide (bPa b = nm))) [(1001, .cells [.d (.str nm)])] := by
  refine Fn.of tblOK [] _ _ _ _ _ Try.func62 rfl rfl (by kernel_rfl) (by kernel_rfl) rfl (drawOK tblOK) rfl ?_
  refine ⟨rfl, ?_⟩
  exact ⟨_, _, _, Le.refl _ _, rfl, rfl, ⟨rfl, trivial⟩, rfl⟩
theorem contains_spec (g : Nat) (p : Bup → Bool) (nm : List UInt8) (L : List Bup) (hL : L.length ≤ 4294967296) (hs : ∀ b, Fn Try.prog g [bkV b, vP 1001] [(1001, .cells [.d (.str nm)])] [] (vB (p b)) [(1001, .cells [.d (.str nm)])]) :
    Fn Try.prog 61 [vOwn 1002, v1 (.clo g [.p 1001 0])] [(1001, .cells [.d (.str nm)]), (1002, .row 43 uB L)] [] (vB (decide (0 ≤ ixL p L))) [(1001, .cells [.d (.str nm)]), (1002, .row 43 uB L)] := by
  refine Fn.of tblOK [] _ _ _ _ _ Try.func61 rfl rfl (by kernel_rfl) (by kernel_rfl) rfl (drawOK tblOK) rfl ?_
  refine ⟨_, _, _, _, ix_spec g p nm L hL hs, ⟨rfl, rfl, trivial⟩, rfl, ?_⟩
  exact ⟨_, _, _, Le.refl _ _, rfl, rfl, ⟨rfl, rfl, trivial⟩, rfl⟩
/-- Is a name the parent of some backup? -/
def isPar (L : List Bup) (nm : List UInt8) : Bool := decide (0 ≤ ixL (fun b => decide (bPa b = nm)) L)
/-- A parent is not dropped. -/
theorem drop_busy (L : List Bup) (nm : List UInt8) (hL : L.length ≤ 4294967296) (hf : 0 ≤ fnd L nm) (hp : isPar L nm = true) : Fn Try.prog 23 [vP 1001, vS nm] (lstB L) [] (vI 1) (lstB L) := by
  refine Fn.of tblOK [] _ _ _ _ _ Try.func23 rfl rfl (by kernel_rfl) (by kernel_rfl) rfl (drawOK tblOK) rfl ?_
  refine ⟨rfl, ?_⟩
  refine ⟨_, _, _, _, find_spec nm L hL, ⟨rfl, rfl, trivial⟩, rfl, ?_⟩
  refine ⟨fun h => absurd hf (by simp only [decide_eq_true_eq] at h; omega), fun h => ?_⟩
  refine ⟨_, _, _, _, Fn.ren [(1001, 3)] (contains_spec 62 _ nm L hL fun b => dropc_spec b nm), ⟨rfl, rfl, trivial⟩, rfl, ?_⟩
  refine ⟨fun h => ?_, fun h => absurd hp (by rw [show isPar L nm = false from h]; simp)⟩
  exact ⟨_, _, _, Le.refl _ _, rfl, rfl, ⟨rfl, rfl, trivial⟩, rfl⟩
/-- A cluster of one letter. -/
def pie1 (c n : Int) : Pie := (c, UInt8.ofNat n.toNat :: List.replicate 15 (0 : UInt8))
theorem piece_spec (c n : Int) (h0 : 0 ≤ n) (h1 : n < 256) : Fn Try.prog 55 [vI c, v1 (.d (.int .u8 n))] [] [] (.c (.agg [.d (.int .i64 c), .d (.lst .u8 (pB (pie1 c n)))])) [] := by
  refine Fn.of tblOK [] _ _ _ _ _ Try.func55 rfl rfl (by kernel_rfl) (by kernel_rfl) rfl (drawOK tblOK) rfl ?_
  refine ⟨rfl, ⟨rfl, by decide, by decide⟩, rfl, ⟨by decide, by decide⟩, ⟨⟨h0, h1⟩, by decide⟩, ?_⟩
  exact ⟨_, _, _, Le.frz 6 rfl, rfl, ⟨rfl, rfl, trivial⟩, trivial, rfl⟩
end Go.Proofs.Ythghcdddambaeaa
/-
  alive.
-/
set_option linter.unusedVariables false
set_option linter.unusedSimpArgs false
set_option maxRecDepth 10000
namespace Go.Proofs.Ythghcdddambaeaa
open Go.RowKit Go.Proofs

def bkA : Bup := ([97], [], (0 : Int), (2 : Int), [pie1 0 120, pie1 1 121])
def bkB : Bup := ([98], [97], (0 : Int), (2 : Int), [pie1 1 122])
theorem addE_A : addE [] bkA = 0 := by kernel_rfl
theorem addL_A : addL [] bkA = [bkA] := by unfold addL; rw [addE_A]; rfl
theorem addE_B : addE [bkA] bkB = 0 := by kernel_rfl
theorem addL_B : addL [bkA] bkB = [bkA, bkB] := by unfold addL; rw [addE_B]; rfl
theorem right_A : rightB bkA = true := by kernel_rfl
theorem right_B : rightB bkB = true := by kernel_rfl
theorem inv_AB : InvL [bkA, bkB] := by
  refine ⟨by decide, fun b hb => ?_, fun k b hk hp => ?_⟩
  · simp only [List.mem_cons, List.not_mem_nil, or_false] at hb
    rcases hb with rfl | rfl
    · exact right_A
    · exact right_B
  · match k, hk with
    | 0, hk => simp only [List.getElem?_cons_zero, Option.some.injEq] at hk; subst hk; exact absurd hp (by decide)
    | 1, hk => simp at hk; subst hk; exact ⟨by decide, by decide⟩
    | k + 2, hk => simp at hk
theorem rest_AB : (restL [bkA, bkB] [98]).length = 32 ∧ lget (restL [bkA, bkB] [98]) 0 = some 120 ∧ lget (restL [bkA, bkB] [98]) 16 = some 122 := ⟨by kernel_rfl, by kernel_rfl, by kernel_rfl⟩
theorem restE_AB : restE [bkA, bkB] [98] = 0 := by kernel_rfl
theorem fnd_AB : 0 ≤ fnd [bkA, bkB] [97] := by decide
theorem par_AB : isPar [bkA, bkB] [97] = true := by kernel_rfl
theorem last_AB : lastN [bkA, bkB] = [98] := by kernel_rfl
set_option maxHeartbeats 1000000 in
theorem alive_spec : Fn Try.prog 17 [] [] [] (vB true) [] := by
  have hA := add_spec [] bkA (by decide) (by decide) (by decide) (by decide)
  rw [addE_A, addL_A] at hA
  have hB := add_spec [bkA] bkB (by decide) (by decide) (by decide) (by decide)
  rw [addE_B, addL_B] at hB
  have hR := restore_spec inv_AB [98]
  rw [restE_AB] at hR
  have hD := drop_busy [bkA, bkB] [97] (by decide) fnd_AB par_AB
  have hL := last_spec [bkA, bkB] (by decide)
  rw [last_AB] at hL
  obtain ⟨r1, r2, r3⟩ := rest_AB
  generalize restL [bkA, bkB] [98] = R at *
  refine Fn.of tblOK [] _ _ _ _ _ Try.func17 rfl rfl (by kernel_rfl) (by kernel_rfl) rfl (drawOK tblOK) rfl ?_
  refine ⟨_, _, _, _, new_spec, trivial, rfl, ?_⟩
  refine ⟨_, _, _, _, piece_spec 0 120 (by decide) (by decide), trivial, rfl, ?_⟩
  refine ⟨_, _, _, _, piece_spec 1 121 (by decide) (by decide), trivial, rfl, ?_⟩
  refine ⟨_, _, _, _, hA, ⟨rfl, rfl, trivial⟩, rfl, ?_⟩
  refine ⟨_, _, _, _, piece_spec 1 122 (by decide) (by decide), trivial, rfl, ?_⟩
  refine ⟨_, _, _, _, Fn.ren [(1002, 1003), (1003, 1004)] hB, ⟨rfl, rfl, trivial⟩, rfl, ?_⟩
  refine ⟨_, _, _, _, Fn.ren [(1002, 1004)] hR, ⟨rfl, rfl, trivial⟩, rfl, ?_⟩
  refine ⟨fun h => ?_, fun h => absurd h (by decide)⟩
  refine ⟨fun h => ?_, fun h => absurd h (by decide)⟩
  refine ⟨fun h => ?_, fun h => absurd h (by decide)⟩
  refine ⟨fun h => ?_, fun h => absurd (show decide ((List.length (α := UInt8) R : Int) = 32) = false from h) (by rw [r1]; decide)⟩
  refine ⟨by decide, (120 : UInt8), r2, ?_⟩
  refine ⟨fun h => ?_, fun h => absurd h (by decide)⟩
  refine ⟨by decide, (122 : UInt8), r3, ?_⟩
  refine ⟨fun h => ?_, fun h => absurd h (by decide)⟩
  refine ⟨_, _, _, _, Fn.ren [(1002, 1004)] hD, ⟨rfl, rfl, trivial⟩, rfl, ?_⟩
  refine ⟨fun h => ?_, fun h => absurd h (by decide)⟩
  refine ⟨_, _, _, _, Fn.ren [(1002, 1004)] hL, ⟨rfl, rfl, trivial⟩, rfl, ?_⟩
  exact ⟨_, _, _, Le.refl _ _, rfl, rfl, trivial, rfl⟩
end Go.Proofs.Ythghcdddambaeaa
/-
  few.
-/
set_option linter.unusedVariables false
set_option linter.unusedSimpArgs false
set_option maxRecDepth 10000
namespace Go.Proofs.Ythghcdddambaeaa
open Go.RowKit Go.Proofs

@[reducible] def uInt : U := .int .i64
/-- What is kept of a file; a call on a store; on files; on a list. -/
@[reducible] def uKp : U := .pr .str (.sl uInt)
@[reducible] def uSO : U := .pr uInt (.pr uInt (.pr uInt (.pr (.sl .u8) (.sl uInt))))
@[reducible] def uFO : U := .pr uInt (.pr uInt (.pr .str (.pr .str (.pr (.sl uKp) uSO))))
@[reducible] def uLO : U := .pr uInt (.pr uInt (.pr uRB (.pr .str uFO)))
abbrev LOp : Type := El uLO
@[reducible] def dKind (o : LOp) : Int := o.1
@[reducible] def nO (o : LOp) : Int := o.2.1
@[reducible] def bO (o : LOp) : RBup := o.2.2.1
@[reducible] def oName (o : LOp) : List UInt8 := o.2.2.2.1
@[reducible] def oF (o : LOp) : El uFO := o.2.2.2.2
@[reducible] def fN (o : El uFO) : Int := o.2.1
@[reducible] def fName (o : El uFO) : List UInt8 := o.2.2.1
@[reducible] def fTo (o : El uFO) : List UInt8 := o.2.2.2.1
@[reducible] def fKs (o : El uFO) : List (El uKp) := o.2.2.2.2.1
@[reducible] def fS (o : El uFO) : El uSO := o.2.2.2.2.2
@[reducible] def sKind (o : El uSO) : Int := o.1
@[reducible] def sN (o : El uSO) : Int := o.2.2.1
@[reducible] def sB (o : El uSO) : List (El .u8) := o.2.2.2.1
@[reducible] def sKeep (o : El uSO) : List (El uInt) := o.2.2.2.2
@[reducible] def kName (o : El uKp) : List UInt8 := o.1
@[reducible] def lK (o : El uKp) : List (El uInt) := o.2
def costP (l : List RPie) : Nat := (l.map fun p => (rB p).length + 1).sum
def costK (l : List (El uKp)) : Nat := (l.map fun k => (lK k).length + (kName k).length).sum
def cost1 (o : LOp) : Nat := (rNm (bO o)).length + (rPa (bO o)).length + (oName o).length + (sB (fS (oF o))).length + (sKeep (fS (oF o))).length + (fName (oF o)).length + (fTo (oF o)).length
def cost (o : LOp) : Nat := cost1 o + costP (rPc (bO o)) + costK (fKs (oF o))
def costs (l : List LOp) : Nat := (l.map cost).sum
def over (n a b : Int) : Bool := decide (a < n) && decide (n ≤ b)
def bad (o : LOp) : Bool := over (rSz (bO o)) 12 256 || over (nO o) 100 4096 || over (fN (oF o)) 100 4096 || (decide (sKind (fS (oF o)) = 4) && over (sN (fS (oF o))) 100 4096)
def fewL (l : List LOp) : Bool := !l.any bad && decide (l.length ≤ 30) && decide (costs l ≤ 4000)
theorem sum_step {α : Type} (f : α → Nat) {l : List α} {k : Nat} (h : k < l.length) : ((l.take (k + 1)).map f).sum = ((l.take k).map f).sum + f l[k] := by
  rw [← take_step h, List.map_append, List.sum_append]
  simp
theorem sum_le {α : Type} (f : α → Nat) (l : List α) (k : Nat) : ((l.take k).map f).sum ≤ (l.map f).sum := by
  conv => rhs; rw [← List.take_append_drop k l]
  rw [List.map_append, List.sum_append]
  omega
theorem costP_len : ∀ (l : List RPie), l.length ≤ costP l
  | [] => Nat.zero_le _
  | p :: l => by
    have := costP_len l
    simp only [costP, List.map_cons, List.sum_cons, List.length_cons] at this ⊢
    omega
@[reducible] def oL (o : LOp) : List S1 := [.d (.int .i64 (dKind o)), .d (.int .i64 (nO o)), .d (.str (rNm (bO o))), .d (.str (rPa (bO o))), .d (.int .i64 (rBits (bO o))), .d (.int .i64 (rSz (bO o))), .d (.lst uRP (rPc (bO o))), .d (.str (oName o)),
  .d (.int .i64 (oF o).1), .d (.int .i64 (fN (oF o))), .d (.str (fName (oF o))), .d (.str (fTo (oF o))), .d (.lst uKp (fKs (oF o))), .d (.int .i64 (sKind (fS (oF o)))), .d (.int .i64 (fS (oF o)).2.1), .d (.int .i64 (sN (fS (oF o)))), .d (.lst .u8 (sB (fS (oF o)))), .d (.lst uInt (sKeep (fS (oF o))))]
@[reducible] def fewK (l : List LOp) (k : Nat) (n : Nat) : KL := [(0, vL uLO l), (10, vL uLO l), (11, vI (l.length : Nat)), (12, vI (k : Nat)), (3, vI (n : Nat))]
set_option maxHeartbeats 4000000 in
theorem few_spec (l : List LOp) (hl : l.length ≤ 1000000) (hc : costs l ≤ 1000000000) (hks : ∀ o, o ∈ l → (fKs (oF o)).length ≤ 1000000) : Fn Try.prog 16 [vL uLO l] [] [] (vB (fewL l)) [] := by
  refine Fn.of tblOK [] _ _ _ _ _ Try.func16 rfl rfl (by kernel_rfl) (by kernel_rfl) rfl (drawOK tblOK) rfl ?_
  show TrQ _ _ _ _ _ _ _
  refine TrQ.loop tblOK (drawOK tblOK) [] (by kernel_rfl) (X := Nat) (fun k => fewK l k (costs (l.take k))) (fun _ => []) (fun k => k ≤ l.length ∧ ∀ (i : Nat) o, i < k → l[i]? = some o → bad o = false) (fun k => l.length - k) 0 ⟨Nat.zero_le _, fun i o h => absurd h (Nat.not_lt_zero _)⟩ ?_ ?_
  · exact Le.sub ⟨rfl, rfl, rfl, rfl, rfl, trivial⟩ trivial
  rintro k ⟨hk, hb⟩
  refine ⟨fun h => ?_, fun h => ?_⟩
  · have hk1 : k < l.length := by simpa using h
    have hs : costs (l.take (k + 1)) = costs (l.take k) + cost l[k] := sum_step cost hk1
    have hs2 : costs (l.take (k + 1)) ≤ costs l := sum_le cost l (k + 1)
    have hce : cost l[k] = cost1 l[k] + costP (rPc (bO l[k])) + costK (fKs (oF l[k])) := rfl
    refine ⟨by omega, l[k], lget_at rfl hk1, rfl, ?_⟩
    have hks := hks _ (List.getElem_mem hk1)
    have hmem : l[k] ∈ l := List.getElem_mem hk1
    have hgood : bad l[k] = false → ∀ (i : Nat) o, i < k + 1 → l[i]? = some o → bad o = false := fun h => prefix_step hk1 hb h
    generalize l[k] = o at *
    have hbad : bad o = true → fewL l = false := fun h => by
      unfold fewL
      rw [show l.any bad = true from List.any_eq_true.2 ⟨o, hmem, h⟩]
      rfl
    have hpl := costP_len (rPc (bO o))
    have hc1 : cost1 o = (rNm (bO o)).length + (rPa (bO o)).length + (oName o).length + (sB (fS (oF o))).length + (sKeep (fS (oF o))).length + (fName (oF o)).length + (fTo (oF o)).length := rfl
    dsimp only [rNm, rPa, bO, oName, sB, sKeep, fS, oF, fName, fTo, uInt] at hc1
    refine ⟨by omega, by omega, by omega, by omega, by omega, by omega, by omega, ?_⟩
    show TrQ _ _ _ _ _ _ _
    refine TrQ.loop tblOK (drawOK tblOK) [] (by kernel_rfl) (X := Nat) (fun j => (5, vP 5) :: (55, vL uRP (rPc (bO o))) :: (56, vI ((rPc (bO o)).length : Nat)) :: (57, vI (j : Nat)) :: fewK l k (costs (l.take k) + cost1 o + costP ((rPc (bO o)).take j))) (fun _ => [(5, .cells (oL o))]) (fun j => j ≤ (rPc (bO o)).length) (fun j => (rPc (bO o)).length - j) 0 (Nat.zero_le _) ?_ ?_
    · refine Le.sub ⟨rfl, rfl, rfl, rfl, rfl, rfl, rfl, rfl, ?_, trivial⟩ ⟨rfl, trivial⟩
      show (_ : Int) = _
      rw [show costP ((rPc (bO o)).take 0) = 0 from rfl]
      omega
    intro j hj
    refine ⟨fun h => ?_, fun h => ?_⟩
    · have hj1 : j < (rPc (bO o)).length := by simpa using h
      have ht : costP ((rPc (bO o)).take (j + 1)) = costP ((rPc (bO o)).take j) + ((rB (rPc (bO o))[j]).length + 1) := sum_step (fun p => (rB p).length + 1) hj1
      have ht2 : costP ((rPc (bO o)).take (j + 1)) ≤ costP (rPc (bO o)) := sum_le _ _ _
      refine ⟨by omega, (rPc (bO o))[j], lget_at rfl hj1, rfl, ?_⟩
      dsimp only [rB] at ht
      refine ⟨by omega, by omega, by omega, j + 1, hj1, by omega, ?_⟩
      refine Le.sub ⟨rfl, rfl, rfl, rfl, rfl, rfl, rfl, rfl, ?_, trivial⟩ ⟨rfl, trivial⟩
      show (_ : Int) = _
      omega
    have hj1 : j = (rPc (bO o)).length := by have : ¬ j < (rPc (bO o)).length := by simpa using h
                                             omega
    subst hj1
    rw [List.take_length]
    show TrQ _ _ _ _ _ _ _
    refine TrQ.loop tblOK (drawOK tblOK) [] (by kernel_rfl) (X := Nat) (fun j => (5, vP 5) :: (70, vL uKp (fKs (oF o))) :: (71, vI ((fKs (oF o)).length : Nat)) :: (72, vI (j : Nat)) :: fewK l k (costs (l.take k) + cost1 o + costP (rPc (bO o)) + costK ((fKs (oF o)).take j))) (fun _ => [(5, .cells (oL o))]) (fun j => j ≤ (fKs (oF o)).length) (fun j => (fKs (oF o)).length - j) 0 (Nat.zero_le _) ?_ ?_
    · refine Le.sub ⟨rfl, rfl, rfl, rfl, rfl, rfl, rfl, rfl, ?_, trivial⟩ ⟨rfl, trivial⟩
      rfl
    intro j hj
    refine ⟨fun h => ?_, fun h => ?_⟩
    · have hj1 : j < (fKs (oF o)).length := by simpa using h
      have ht : costK ((fKs (oF o)).take (j + 1)) = costK ((fKs (oF o)).take j) + ((lK (fKs (oF o))[j]).length + (kName (fKs (oF o))[j]).length) := sum_step (fun k => (lK k).length + (kName k).length) hj1
      have ht2 : costK ((fKs (oF o)).take (j + 1)) ≤ costK (fKs (oF o)) := sum_le _ _ _
      refine ⟨by omega, (fKs (oF o))[j], lget_at rfl hj1, rfl, ?_⟩
      dsimp only [lK, kName, uInt] at ht
      refine ⟨by omega, by omega, by omega, j + 1, hj1, by omega, ?_⟩
      refine Le.sub ⟨rfl, rfl, rfl, rfl, rfl, rfl, rfl, rfl, ?_, trivial⟩ ⟨rfl, trivial⟩
      show (_ : Int) = _
      omega
    have hj1 : j = (fKs (oF o)).length := by have : ¬ j < (fKs (oF o)).length := by simpa using h
                                             omega
    subst hj1
    rw [List.take_length]
    repeat' (first | refine ⟨fun h => ?_, fun h => ?_⟩ | fail)
    all_goals first
      | (refine ⟨by omega, k + 1, ⟨hk1, hgood ?_⟩, by omega, Le.sub ⟨rfl, rfl, rfl, rfl, ?_, trivial⟩ trivial⟩
         rotate_left
         · show (_ : Int) = _
           omega
         simp only [bad, over]
         clear hs2 hs hce hc1 hpl hgood hbad hb hks hc
         simp_all <;> omega)
      | (refine ⟨_, _, _, Le.refl _ _, rfl, (hbad ?_).symm, trivial, rfl⟩
         simp only [bad, over]
         clear hs2 hs hce hc1 hpl hgood hbad hb hks hc
         simp_all <;> omega)
      | skip
  · have hk1 : k = l.length := by have : ¬ k < l.length := by simpa using h
                                  omega
    subst hk1
    rw [List.take_length]
    have hany : l.any bad = false := by
      rw [List.any_eq_false]
      intro o ho
      obtain ⟨i, hi, rfl⟩ := List.getElem_of_mem ho
      simp [hb i _ hi (List.getElem?_eq_getElem hi)]
    refine ⟨fun h => ?_, fun h => ?_⟩
    · refine ⟨_, _, _, Le.refl _ _, rfl, ?_, trivial, rfl⟩
      show decide ((costs l : Int) ≤ 4000) = fewL l
      unfold fewL
      rw [hany]
      have h1 : l.length ≤ 30 := by simp only [decide_eq_true_eq] at h; omega
      simp [h1]
      omega
    · refine ⟨_, _, _, Le.refl _ _, rfl, ?_, trivial, rfl⟩
      show false = fewL l
      unfold fewL
      have h1 : ¬ l.length ≤ 30 := by simp only [decide_eq_false_iff_not] at h; omega
      simp [h1]
end Go.Proofs.Ythghcdddambaeaa
/-
  The plain law: what Add leaves as it was.
-/
set_option linter.unusedVariables false
set_option linter.unusedSimpArgs false
namespace Go.Proofs.Ythghcdddambaeaa
open Go.RowKit Go.Proofs

theorem InvL.nil : InvL [] := ⟨by simp, fun b hb => by simp at hb, fun k b hk => by simp at hk⟩
theorem addE_zero {L : List Bup} {b : Bup} (h : addE L b = 0) : rightB b = true ∧ fnd L (bNm b) < 0 ∧ L.length < 64 ∧ (decide (bPa b = []) = false → 0 ≤ fnd L (bPa b)) := by
  unfold addE at h
  split at h
  · cases h
  · rename_i h1
    split at h
    · cases h
    · rename_i h2
      simp only [Bool.or_eq_true, Bool.not_eq_true', decide_eq_true_eq, not_or, Bool.not_eq_false] at h1
      refine ⟨h1.1.1, by omega, by omega, fun h => ?_⟩
      rw [h] at h2
      simp only [Bool.not_false, Bool.true_and, decide_eq_true_eq] at h2
      omega
theorem ixL_append {α : Type} {p : α → Bool} {L : List α} (x : α) (h : 0 ≤ ixL p L) : ixL p (L ++ [x]) = ixL p L := by
  unfold ixL at *
  rw [List.findIdx?_append]
  cases hf : L.findIdx? p with
  | none => rw [hf] at h; exact absurd h (by decide)
  | some k => simp
theorem ixL_append_new {α : Type} {p : α → Bool} {L : List α} {x : α} (h : ixL p L < 0) (hx : p x = true) : ixL p (L ++ [x]) = (L.length : Int) := by
  unfold ixL at *
  rw [List.findIdx?_append]
  cases hf : L.findIdx? p with
  | none => simp [List.findIdx?_cons, hx]
  | some k => rw [hf] at h; simp at h; omega
theorem snoc_get {α : Type} {L : List α} {b : α} (k : Nat) (x : α) (hx : (L ++ [b])[k]? = some x) : L[k]? = some x ∨ (k = L.length ∧ x = b) := by
  rcases Nat.lt_or_ge k L.length with h | h
  · rw [List.getElem?_append_left h] at hx; exact .inl hx
  · rw [List.getElem?_append_right h] at hx
    cases hk : k - L.length with
    | zero => rw [hk] at hx; exact .inr ⟨by omega, by simpa using hx.symm⟩
    | succ n => rw [hk] at hx; simp at hx
theorem InvL.add {L : List Bup} (hI : InvL L) (b : Bup) : InvL (addL L b) := by
  unfold addL
  split
  · rename_i h
    obtain ⟨h1, h2, h3, h4⟩ := addE_zero h
    refine ⟨by simp; omega, fun x hx => ?_, fun k x hk hp => ?_⟩
    · rcases List.mem_append.1 hx with hx | hx
      · exact hI.right x hx
      · simp only [List.mem_cons, List.not_mem_nil, or_false] at hx
        rw [hx]; exact h1
    · rcases snoc_get k x hk with hk | ⟨rfl, rfl⟩
      · have := hI.par k x hk hp
        unfold fnd at *
        rw [ixL_append b this.1]; exact this
      · have := h4 hp
        have hlt := fnd_lt L (bPa x)
        unfold fnd at *
        rw [ixL_append x this]; exact ⟨this, hlt⟩
  · exact hI
/-- What is restored of who is there stays so. -/
theorem restB_append {L : List Bup} (hI : InvL L) (b : Bup) : ∀ (n : Nat) (nm : List UInt8), 0 ≤ fnd L nm → restB (L ++ [b]) n nm = restB L n nm
  | 0, _, _ => rfl
  | n + 1, nm, h => by
    have hf : fnd (L ++ [b]) nm = fnd L nm := ixL_append b h
    have hlt := fnd_lt L nm
    simp only [restB, restS]
    rw [hf]
    have hg : lgetI (L ++ [b]) (fnd L nm) = lgetI L (fnd L nm) := by
      unfold lgetI lget
      rw [if_pos h, if_pos h, List.getElem?_append_left (by omega)]
    rw [hg]
    cases hx : lgetI L (fnd L nm) with
    | none => rfl
    | some x =>
      simp only
      obtain ⟨k, hk, hb⟩ := lgetI_some hx
      by_cases hp : bPa x = []
      · unfold diskB
        simp only [hp, decide_true, if_true]
      · rw [restB_append hI b n (bPa x) (hI.par k x hb (by simpa using hp)).1]
/-- Zeros, over which bytes are laid: as far as both go, the bytes; behind them zeros. -/
theorem laid_zeros (m : Nat) (ys : List UInt8) : (laid (List.replicate m 0) 0 m ys) = ys.take m ++ List.replicate (m - ys.length) 0 := by
  unfold laid
  simp only [List.take_zero, List.nil_append, List.length_take, Nat.zero_add, List.drop_replicate]
  congr 2
  omega
theorem over_bytes (m : Nat) (ys : List UInt8) : let b := ys.take m ++ List.replicate (m - ys.length) (0 : UInt8)
    b.length = m ∧ ys.take (min ys.length m) = b.take (min ys.length m) ∧ b.drop (min ys.length m) = List.replicate (m - min ys.length m) 0 := by
  intro b
  have hl : b.length = m := by simp only [b, List.length_append, List.length_take, List.length_replicate]; omega
  have ht : (ys.take m).length = min ys.length m := by rw [List.length_take]; omega
  refine ⟨hl, ?_, ?_⟩
  · rw [← ht, List.take_left, ht]
    rcases Nat.le_total ys.length m with h | h
    · rw [Nat.min_eq_left h, List.take_length, List.take_of_length_le h]
    · rw [Nat.min_eq_right h]
  · rw [← ht, List.drop_left, ht]
    congr 1
    omega
/-- What is restored of a new one that has no pieces. -/
theorem rest_over {L : List Bup} (hI : InvL L) {ov : Bup} (hA : addE L ov = 0) (hp : bPc ov = []) (hf : 0 ≤ fnd L (bPa ov)) (hn : ¬ bPa ov = []) :
    restE (L ++ [ov]) (bNm ov) = 0 ∧ restL (L ++ [ov]) (bNm ov) = laid (List.replicate (bSz ov * clB (bBits ov)).toNat 0) 0 (bSz ov * clB (bBits ov)).toNat (restL L (bPa ov)) := by
  obtain ⟨h1, h2, h3, h4⟩ := addE_zero hA
  have hfn : fnd (L ++ [ov]) (bNm ov) = L.length := ixL_append_new h2 (by simp)
  refine ⟨by unfold restE; rw [hfn, if_neg (by simp)], ?_⟩
  have hg : lgetI (L ++ [ov]) (fnd (L ++ [ov]) (bNm ov)) = some ov := by
    rw [hfn]
    unfold lgetI lget
    rw [if_pos (by omega)]
    simp
  unfold restL
  rw [List.length_append, List.length_singleton]
  show restS (L ++ [ov]) (bNm ov) (restB (L ++ [ov]) (L.length + 1)) = _
  unfold restS
  rw [hg]
  simp only
  rw [restB_append hI ov _ _ hf]
  unfold diskB
  simp only [hp, List.foldl_nil, List.length_replicate]
  rw [if_neg (by simp [hn])]
end Go.Proofs.Ythghcdddambaeaa
