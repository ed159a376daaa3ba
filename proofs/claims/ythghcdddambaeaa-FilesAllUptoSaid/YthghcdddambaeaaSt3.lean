/-
  The store: Len, Used, Loose, Room, inside, Flush, Copy, as contracts on the object.
-/
import Derived.Test.YthghcdddambaeaaSt2
set_option linter.unusedVariables false
set_option linter.unusedSimpArgs false
set_option maxRecDepth 10000
namespace Go.Proofs.Ythghcdddambaeaa
open Go.RowKit Go.Proofs
@[reducible] def stX : List Nat := [1002, 1003, 1004]
/-- From the blocks laid open to the object. -/
theorem stClose {f : FuncId} {args : List SV} {m m' : StM} {Bi Bo : BL} {res : SV} {nw : List Nat} (h : Fn Try.prog f args (stB 1001 1002 1003 1004 m ++ Bi) nw res (stB 1001 1002 1003 1004 m' ++ Bo))
    (h1 : closeIn 1001 stX args (stB 1001 1002 1003 1004 m) Bi nw [] = true) (h2 : closeOut 1001 (hidOf stX nw []) res (stB 1001 1002 1003 1004 m') Bo = true) :
    Fn Try.prog f args ((1001, .obj (stO m)) :: Bi) [] res ((1001, .obj (stO m')) :: Bo) :=
  (FnX.close (Bl := stB 1001 1002 1003 1004 m) (Bl' := fun _ : Unit => stB 1001 1002 1003 1004 m') (Bo := fun _ => Bo) (o := stO m) (o' := fun _ => stO m') stX h.x (fun _ _ _ _ h => h) (fun _ _ _ _ _ h => h) h1 (fun _ => h2)).fn
@[reducible] def vU : SV := .tup []
def StM.insideB (m : StM) (at_ long : Int) : Bool := decide (0 ≤ at_) && decide (long ≤ m.n) && decide (at_ ≤ m.n - long)
theorem slen_fn (m : StM) : Fn Try.prog 54 [vP 1001] [(1001, .obj (stO m))] [] (vI m.n) [(1001, .obj (stO m))] := by
  refine stClose (Bi := []) (Bo := []) (nw := []) ?_ rfl rfl
  refine Fn.of tblOK [] _ _ _ _ _ Try.func54 rfl rfl (by kernel_rfl) (by kernel_rfl) rfl (drawOK tblOK) rfl ?_
  exact ⟨_, _, _, Le.refl _ _, rfl, rfl, ⟨rfl, rfl, rfl, rfl, trivial⟩, rfl⟩
theorem sused_fn (m : StM) : Fn Try.prog 118 [vP 1001] (stB 1001 1002 1003 1004 m) [] (vI (m.seen.length : Nat)) (stB 1001 1002 1003 1004 m) := by
  refine Fn.of tblOK [] _ _ _ _ _ Try.func118 rfl rfl (by kernel_rfl) (by kernel_rfl) rfl (drawOK tblOK) rfl ?_
  exact ⟨_, _, _, Le.refl _ _, rfl, rfl, ⟨rfl, rfl, rfl, rfl, trivial⟩, rfl⟩
theorem sloose_fn (m : StM) : Fn Try.prog 51 [vP 1001] [(1001, .obj (stO m))] [] (vI (m.loose.length : Nat)) [(1001, .obj (stO m))] := by
  refine stClose (Bi := []) (Bo := []) (nw := []) ?_ rfl rfl
  refine Fn.of tblOK [] _ _ _ _ _ Try.func51 rfl rfl (by kernel_rfl) (by kernel_rfl) rfl (drawOK tblOK) rfl ?_
  exact ⟨_, _, _, Le.refl _ _, rfl, rfl, ⟨rfl, rfl, rfl, rfl, trivial⟩, rfl⟩
theorem sroom_fn (m : StM) (r : Int) : Fn Try.prog 105 [vP 1001, vI r] [(1001, .obj (stO m))] [] vU [(1001, .obj (stO { m with room := max r 0 }))] := by
  refine stClose (Bi := []) (Bo := []) (nw := []) ?_ rfl rfl
  refine Fn.of tblOK [] _ _ _ _ _ Try.func105 rfl rfl (by kernel_rfl) (by kernel_rfl) rfl (drawOK tblOK) rfl ?_
  exact ⟨_, _, _, Le.refl _ _, rfl, trivial, ⟨rfl, rfl, rfl, rfl, trivial⟩, rfl⟩
theorem sinside_fn (m : StM) (at_ long : Int) (h0 : 0 ≤ long) (h1 : 0 ≤ m.n) (h2 : m.n ≤ 4096) : Fn Try.prog 106 [vP 1001, vI at_, vI long] (stB 1001 1002 1003 1004 m) [] (vB (m.insideB at_ long)) (stB 1001 1002 1003 1004 m) := by
  refine Fn.of tblOK [] _ _ _ _ _ Try.func106 rfl rfl (by kernel_rfl) (by kernel_rfl) rfl (drawOK tblOK) rfl ?_
  refine ⟨fun h => ?_, fun h => ?_⟩
  · have h : decide (0 ≤ at_) = true := h
    refine ⟨fun h3 => ?_, fun h3 => ?_⟩
    · have h3 : decide (long ≤ m.n) = true := h3
      have h4 : long ≤ m.n := by simpa using h3
      refine ⟨by omega, ?_⟩
      exact ⟨_, _, _, Le.refl _ _, rfl, (show decide (at_ ≤ m.n - long) = m.insideB at_ long by rw [StM.insideB, h, h3]; rfl), ⟨rfl, rfl, rfl, rfl, trivial⟩, rfl⟩
    · have h3 : decide (long ≤ m.n) = false := h3
      exact ⟨_, _, _, Le.refl _ _, rfl, (show false = m.insideB at_ long by rw [StM.insideB, h, h3]; rfl), ⟨rfl, rfl, rfl, rfl, trivial⟩, rfl⟩
  · have h : decide (0 ≤ at_) = false := h
    exact ⟨_, _, _, Le.refl _ _, rfl, (show false = m.insideB at_ long by rw [StM.insideB, h]; rfl), ⟨rfl, rfl, rfl, rfl, trivial⟩, rfl⟩
def StM.flush (m : StM) : StM := { m with safe := m.seen, loose := [] }
/-- Flush on the blocks laid open: the map of what is safe is a new one. -/
theorem sflushB_fn (m : StM) : Fn Try.prog 82 [vP 1001] (stB 1001 1002 1003 1004 m) [2001, 2002] vU (stB 1001 2001 1003 2002 m.flush) := by
  refine Fn.of tblOK [] _ _ _ _ _ Try.func82 rfl rfl (by kernel_rfl) (by kernel_rfl) rfl (drawOK tblOK) rfl ?_
  refine ⟨_, _, _, _, Fn.ren [(1001, 1003)] (mapsCloneX_fn m.seen), ⟨rfl, trivial⟩, rfl, ?_⟩
  exact ⟨_, _, _, Le.nilc 1001 4 2002 198 uW rfl rfl rfl, rfl, trivial, ⟨rfl, rfl, rfl, rfl, trivial⟩, rfl⟩
end Go.Proofs.Ythghcdddambaeaa
