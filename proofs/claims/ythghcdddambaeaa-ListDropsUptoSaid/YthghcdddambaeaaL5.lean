/-
  The document's backups as data; own.
-/
import Derived.Test.YthghcdddambaeaaL4
set_option linter.unusedVariables false
set_option linter.unusedSimpArgs false
set_option maxRecDepth 10000
namespace Go.Proofs.Ythghcdddambaeaa
open Go.RowKit Go.Proofs

/-- The document's piece and backup: the bytes are a text. -/
@[reducible] def uRP : U := .pr (.int .i64) .str
@[reducible] def uRB : U := .pr .str (.pr .str (.pr (.int .i64) (.pr (.int .i64) (.sl uRP))))
abbrev RPie : Type := El uRP
abbrev RBup : Type := El uRB
@[reducible] def rC (p : RPie) : Int := p.1
@[reducible] def rB (p : RPie) : List UInt8 := p.2
@[reducible] def rNm (b : RBup) : List UInt8 := b.1
@[reducible] def rPa (b : RBup) : List UInt8 := b.2.1
@[reducible] def rBits (b : RBup) : Int := b.2.2.1
@[reducible] def rSz (b : RBup) : Int := b.2.2.2.1
@[reducible] def rPc (b : RBup) : List RPie := b.2.2.2.2
@[reducible] def rbL (b : RBup) : List S1 := [.d (.str (rNm b)), .d (.str (rPa b)), .d (.int .i64 (rBits b)), .d (.int .i64 (rSz b)), .d (.lst uRP (rPc b))]
@[reducible] def rbV (b : RBup) : SV := .c (.agg (rbL b))
def pieOf (p : RPie) : Pie := (rC p, rB p)
/-- The program's backup of the document's. -/
def ownOf (b : RBup) : Bup := (rNm b, rPa b, rBits b, rSz b, (rPc b).map pieOf)
@[reducible] def ownK (b : RBup) (r k : Nat) : KL := [(1, vP 1), (2, vP 2), (3, vP 3), (16, vL uRP (rPc b)), (17, vI ((rPc b).length : Nat)), (18, vI (k : Nat))]
@[reducible] def ownB (b : RBup) (r : Nat) (l : List Pie) : BL := [(r, .row 111 uP l), (3, .cells [.d (.str (rNm b)), .d (.str (rPa b)), .d (.int .i64 (rBits b)), .d (.int .i64 (rSz b)), .own r]), (2, .cells tbl.t43.zero)]
theorem map_take_step {α β : Type} (f : α → β) {l : List α} {k : Nat} (h : k < l.length) : (l.take k).map f ++ [f l[k]] = (l.take (k + 1)).map f := by
  rw [← take_step h, List.map_append]
  rfl
set_option maxHeartbeats 1000000 in
theorem own_spec (b : RBup) (hl : (rPc b).length ≤ 1000000) (hp : ∀ p, p ∈ rPc b → (rB p).length ≤ 4294967296) : Fn Try.prog 19 [rbV b] [] [] (bkV (ownOf b)) [] := by
  refine Fn.of tblOK [7] _ _ _ _ _ Try.func19 rfl rfl (by kernel_rfl) (by kernel_rfl) rfl (drawOK tblOK) rfl ?_
  refine ⟨rfl, rfl, rfl, ?_⟩
  show TrQ _ _ _ _ _ _ _
  refine TrQ.loop tblOK (drawOK tblOK) [7] (by kernel_rfl) (X := Nat) (ownK b 2002) (fun k => ownB b 2002 (((rPc b).take k).map pieOf)) (fun k => k ≤ (rPc b).length) (fun k => (rPc b).length - k) 0 (Nat.zero_le _) ?_ ?_
  · exact Le.trans (Le.nilc 3 4 2002 111 uP rfl rfl rfl) (Le.sub ⟨rfl, rfl, rfl, rfl, rfl, rfl, trivial⟩ ⟨rfl, rfl, rfl, trivial⟩)
  intro j hj
  refine ⟨fun h => ?_, fun h => ?_⟩
  · have hj1 : j < (rPc b).length := by simpa using h
    have hpl := hp _ (List.getElem_mem hj1)
    refine ⟨by omega, (rPc b)[j], lget_at rfl hj1, rfl, ?_⟩
    refine ⟨hpl, ?_, rfl, ?_⟩
    · show (((rPc b).take j).map pieOf).length + 1 ≤ 4294967296
      rw [List.length_map, List.length_take]; omega
    refine ⟨by omega, j + 1, hj1, by omega, ?_⟩
    exact Le.trans (Le.sub (K' := ownK b 31 (j + 1)) (B' := ownB b 31 (((rPc b).take (j + 1)).map pieOf)) ⟨rfl, rfl, rfl, rfl, rfl, rfl, trivial⟩ ⟨congrArg (fun l => some (Ch.row _ uP l)) (map_take_step pieOf hj1), rfl, rfl, trivial⟩) (Le.ren 31 2002 rfl)
  · have hj1 : j = (rPc b).length := by have : ¬ j < (rPc b).length := by simpa using h
                                        omega
    subst hj1
    show TrQ _ _ _ _ _ _ _
    refine TrQ.go tblOK (drawOK tblOK) [] (by kernel_rfl) (Le.trans (Le.sub (K' := ownK b 2002 (rPc b).length) (B' := ownB b 2002 ((rPc b).map pieOf)) ⟨rfl, rfl, rfl, rfl, rfl, rfl, trivial⟩ ⟨congrArg (fun l => some (Ch.row _ uP (List.map pieOf l))) List.take_length, rfl, rfl, trivial⟩) (Le.frz 2002 rfl)) ?_
    exact ⟨_, _, _, Le.refl _ _, rfl, ⟨rfl, rfl, rfl, rfl, rfl, trivial⟩, trivial, rfl⟩
end Go.Proofs.Ythghcdddambaeaa
