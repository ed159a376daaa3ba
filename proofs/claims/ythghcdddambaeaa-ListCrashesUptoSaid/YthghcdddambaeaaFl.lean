/-
  Files: New, Open, Rename on the blocks laid open.
-/
import Derived.Test.YthghcdddambaeaaSt
set_option linter.unusedVariables false
set_option linter.unusedSimpArgs false
set_option maxRecDepth 10000
namespace Go.Proofs.Ythghcdddambaeaa
open Go.RowKit Go.Proofs
/-- The files' blocks: room and map; the map from names to addresses. -/
@[reducible] def flB (c d : Nat) (room : Int) (es : List (El .str × El .adr)) : BL := [(c, .cells [.d (.int .i64 room), .mp d]), (d, .map .str .adr es)]
def fget (es : List (El .str × El .adr)) (k : List UInt8) : Option Nat := (mget es (k : El .str)).getD (dflt .adr)
@[reducible] def vAdr (x : Option Nat) : SC := .one (.d (.adr x))
theorem fopen_ok (room : Int) (es : List (El .str × El .adr)) (name : List UInt8) (b : Nat) (h : fget es name = some b) : Fn Try.prog 45 [vP 1001, vS name] (flB 1001 1002 room es) [] (.tup [vAdr (some b), vErr 0]) (flB 1001 1002 room es) := by
  refine Fn.of tblOK [] _ _ _ _ _ Try.func45 rfl rfl (by kernel_rfl) (by kernel_rfl) rfl (drawOK tblOK) rfl ?_
  refine ⟨fun b' h' => ?_, fun h' => ?_⟩
  · exact ⟨_, _, _, Le.refl _ _, rfl, ⟨h, rfl, trivial⟩, ⟨rfl, rfl, trivial⟩, rfl⟩
  · exfalso
    have : fget es name = none := h'
    rw [h] at this
    cases this
theorem fopen_no (room : Int) (es : List (El .str × El .adr)) (name : List UInt8) (h : fget es name = none) : Fn Try.prog 45 [vP 1001, vS name] (flB 1001 1002 room es) [] (.tup [vNilP, vErr 40]) (flB 1001 1002 room es) := by
  refine Fn.of tblOK [] _ _ _ _ _ Try.func45 rfl rfl (by kernel_rfl) (by kernel_rfl) rfl (drawOK tblOK) rfl ?_
  refine ⟨fun b' h' => ?_, fun h' => ?_⟩
  · exfalso
    have : fget es name = some b' := h'
    rw [h] at this
    cases this
  · exact ⟨_, _, _, Le.refl _ _, rfl, ⟨rfl, rfl, trivial⟩, ⟨rfl, rfl, trivial⟩, rfl⟩
theorem fnew_bad (room : Int) (h : room < 0) : Fn Try.prog 31 [vI room] [] [] (.tup [vNilP, vErr 1]) [] := by
  refine Fn.of tblOK [] _ _ _ _ _ Try.func31 rfl rfl (by kernel_rfl) (by kernel_rfl) rfl (drawOK tblOK) rfl ?_
  refine ⟨fun h1 => ?_, fun h1 => ?_⟩
  · exact ⟨_, _, _, Le.refl _ _, rfl, ⟨rfl, rfl, trivial⟩, trivial, rfl⟩
  · simp at h1
    omega
theorem fnew_ok (room : Int) (h : 0 ≤ room) : Fn Try.prog 31 [vI room] [] [1001, 1002] (.tup [.one (.ptr 1001 0), vErr 0]) (flB 1001 1002 room []) := by
  refine Fn.of tblOK [] _ _ _ _ _ Try.func31 rfl rfl (by kernel_rfl) (by kernel_rfl) rfl (drawOK tblOK) rfl ?_
  refine ⟨fun h1 => ?_, fun h1 => ?_⟩
  · simp at h1
    omega
  refine ⟨rfl, ?_⟩
  refine ⟨rfl, ?_⟩
  exact ⟨_, _, _, (Le.ren 9 1001 rfl).trans (Le.ren 7 1002 rfl), rfl, ⟨rfl, rfl, trivial⟩, ⟨rfl, rfl, trivial⟩, rfl⟩
theorem frename_arg (room : Int) (es : List (El .str × El .adr)) (fr to : List UInt8) (hl : to.length ≤ 4294967296) (h : nameOK to = false) : Fn Try.prog 46 [vP 1001, vS fr, vS to] (flB 1001 1002 room es) [] (vI 1) (flB 1001 1002 room es) := by
  refine Fn.of tblOK [] _ _ _ _ _ Try.func46 rfl rfl (by kernel_rfl) (by kernel_rfl) rfl (drawOK tblOK) rfl ?_
  refine ⟨_, _, _, _, files_Right_fn _ hl, trivial, rfl, ?_⟩
  refine ⟨fun h1 => ?_, fun h1 => ?_⟩
  · exact ⟨_, _, _, Le.refl _ _, rfl, rfl, ⟨rfl, rfl, trivial⟩, rfl⟩
  · rw [h] at h1; cases h1
theorem frename_no (room : Int) (es : List (El .str × El .adr)) (fr to : List UInt8) (hl : to.length ≤ 4294967296) (h : nameOK to = true) (hn : fget es fr = none) : Fn Try.prog 46 [vP 1001, vS fr, vS to] (flB 1001 1002 room es) [] (vI 40) (flB 1001 1002 room es) := by
  refine Fn.of tblOK [] _ _ _ _ _ Try.func46 rfl rfl (by kernel_rfl) (by kernel_rfl) rfl (drawOK tblOK) rfl ?_
  refine ⟨_, _, _, _, files_Right_fn _ hl, trivial, rfl, ?_⟩
  refine ⟨fun h1 => ?_, fun h1 => ?_⟩
  · rw [h] at h1; cases h1
  refine ⟨_, _, _, _, fopen_no room es fr hn, ⟨rfl, rfl, trivial⟩, rfl, ?_⟩
  refine ⟨fun h2 => ?_, fun h2 => ?_⟩
  · exact ⟨_, _, _, Le.refl _ _, rfl, rfl, ⟨rfl, rfl, trivial⟩, rfl⟩
  · exact absurd h2 (by decide)
theorem frename_ok (room : Int) (es : List (El .str × El .adr)) (fr to : List UInt8) (b : Nat) (hl : to.length ≤ 4294967296) (h : nameOK to = true) (hn : fget es fr = some b) : Fn Try.prog 46 [vP 1001, vS fr, vS to] (flB 1001 1002 room es) [] (vI 0) (flB 1001 1002 room (mput (mdel es (fr : El .str)) (to : El .str) (some b : Option Nat))) := by
  refine Fn.of tblOK [] _ _ _ _ _ Try.func46 rfl rfl (by kernel_rfl) (by kernel_rfl) rfl (drawOK tblOK) rfl ?_
  refine ⟨_, _, _, _, files_Right_fn _ hl, trivial, rfl, ?_⟩
  refine ⟨fun h1 => ?_, fun h1 => ?_⟩
  · rw [h] at h1; cases h1
  refine ⟨_, _, _, _, fopen_ok room es fr b hn, ⟨rfl, rfl, trivial⟩, rfl, ?_⟩
  refine ⟨fun h2 => ?_, fun h2 => ?_⟩
  · exact absurd h2 (by decide)
  refine ⟨trivial, ?_⟩
  exact ⟨_, _, _, Le.refl _ _, rfl, rfl, ⟨rfl, rfl, trivial⟩, rfl⟩
/-! Files: Create on the blocks laid open. -/
@[reducible] def flP (c d q : Nat) (room : Int) (es : List (El .str × El .adr)) (L : List (Nat × Ob)) : BL := [(c, .cells [.d (.int .i64 room), .mp d]), (d, .map .str .adr es), (q, .obj (.pool L))]
theorem fcreate_ok (room : Int) (es : List (El .str × El .adr)) (L : List (Nat × Ob)) (name : List UInt8) (n : Int) (hl : name.length ≤ 4294967296) (h1 : nameOK name = true) (h2 : (srightN n && decide (0 ≤ room)) = true) (h4 : fget es name = none) (h5 : es.length < 16) :
    FnX Try.prog 34 [vP 1001, vS name, vI n] (flP 1001 1002 1003 room es L) [] (fun b : Nat => .tup [vAdr (some b), vErr 0]) (fun b => flP 1001 1002 1003 room (mput es (name : El .str) (some b : Option Nat)) ((b, stO ⟨n, room, [], [], []⟩) :: L)) := by
  refine FnX.of tblOK [8] _ _ _ _ _ Try.func34 rfl rfl (by kernel_rfl) (by kernel_rfl) rfl (drawOK tblOK) rfl ?_
  refine ⟨_, _, _, _, Fn.ren [(1001, 2001)] (snew_ok n room h2), trivial, rfl, ?_⟩
  refine ⟨_, _, _, _, files_Right_fn _ hl, trivial, rfl, ?_⟩
  refine ⟨fun e1 => ?_, fun e1 => ?_⟩
  · rw [h1] at e1; cases e1
  refine ⟨fun e2 => ?_, fun e2 => ?_⟩
  · exact absurd e2 (by decide)
  refine ⟨fun b' e3 => ?_, fun e3 => ?_⟩
  · exfalso
    have : fget es name = some b' := e3
    rw [h4] at this
    cases this
  refine ⟨fun e4 => ?_, fun e4 => ?_⟩
  · exfalso
    simp at e4
    omega
  show TrQ _ _ _ _ _ _ _
  refine TrQ.leX (LeX.name 8 2001 rfl rfl) fun b => ?_
  refine TrQ.go tblOK (drawOK tblOK) [] (by kernel_rfl) (Le.refl _ _) ?_
  refine ⟨trivial, ?_⟩
  exact ⟨b, _, _, _, Le.put 1003 2001 (by decide) rfl rfl, rfl, ⟨rfl, rfl, trivial⟩, ⟨rfl, rfl, rfl, trivial⟩, rfl⟩
theorem fcreate_arg (room : Int) (es : List (El .str × El .adr)) (name : List UInt8) (n : Int) (hl : name.length ≤ 4294967296) (h : (nameOK name && (srightN n && decide (0 ≤ room))) = false) :
    Fn Try.prog 34 [vP 1001, vS name, vI n] (flB 1001 1002 room es) [] (.tup [vNilP, vErr 1]) (flB 1001 1002 room es) := by
  refine Fn.of tblOK [] _ _ _ _ _ Try.func34 rfl rfl (by kernel_rfl) (by kernel_rfl) rfl (drawOK tblOK) rfl ?_
  rcases Bool.eq_false_or_eq_true (srightN n && decide (0 ≤ room)) with h2 | h2
  · refine ⟨_, _, _, _, Fn.ren [(1001, 2001)] (snew_ok n room h2), trivial, rfl, ?_⟩
    refine ⟨_, _, _, _, files_Right_fn _ hl, trivial, rfl, ?_⟩
    refine ⟨fun e1 => ?_, fun e1 => ?_⟩
    · exact ⟨_, _, _, Le.refl _ _, rfl, ⟨rfl, rfl, trivial⟩, ⟨rfl, rfl, trivial⟩, rfl⟩
    · exfalso
      rw [h2] at h
      simp at e1 h
      rw [h] at e1
      cases e1
  · refine ⟨_, _, _, _, snew_bad n room h2, trivial, rfl, ?_⟩
    refine ⟨_, _, _, _, files_Right_fn _ hl, trivial, rfl, ?_⟩
    refine ⟨fun e1 => ?_, fun e1 => ?_⟩
    · exact ⟨_, _, _, Le.refl _ _, rfl, ⟨rfl, rfl, trivial⟩, ⟨rfl, rfl, trivial⟩, rfl⟩
    refine ⟨fun e2 => ?_, fun e2 => ?_⟩
    · exact ⟨_, _, _, Le.refl _ _, rfl, ⟨rfl, rfl, trivial⟩, ⟨rfl, rfl, trivial⟩, rfl⟩
    · exact absurd e2 (by decide)
theorem fcreate_there (room : Int) (es : List (El .str × El .adr)) (name : List UInt8) (n : Int) (b : Nat) (hl : name.length ≤ 4294967296) (h1 : nameOK name = true) (h2 : (srightN n && decide (0 ≤ room)) = true) (h4 : fget es name = some b) :
    Fn Try.prog 34 [vP 1001, vS name, vI n] (flB 1001 1002 room es) [] (.tup [vNilP, vErr 42]) (flB 1001 1002 room es) := by
  refine Fn.of tblOK [] _ _ _ _ _ Try.func34 rfl rfl (by kernel_rfl) (by kernel_rfl) rfl (drawOK tblOK) rfl ?_
  refine ⟨_, _, _, _, Fn.ren [(1001, 2001)] (snew_ok n room h2), trivial, rfl, ?_⟩
  refine ⟨_, _, _, _, files_Right_fn _ hl, trivial, rfl, ?_⟩
  refine ⟨fun e1 => ?_, fun e1 => ?_⟩
  · rw [h1] at e1; cases e1
  refine ⟨fun e2 => ?_, fun e2 => ?_⟩
  · exact absurd e2 (by decide)
  refine ⟨fun b' e3 => ?_, fun e3 => ?_⟩
  · exact ⟨_, _, _, Le.refl _ _, rfl, ⟨rfl, rfl, trivial⟩, ⟨rfl, rfl, trivial⟩, rfl⟩
  · exfalso
    have : fget es name = none := e3
    rw [h4] at this
    cases this
theorem fcreate_full (room : Int) (es : List (El .str × El .adr)) (name : List UInt8) (n : Int) (hl : name.length ≤ 4294967296) (h1 : nameOK name = true) (h2 : (srightN n && decide (0 ≤ room)) = true) (h4 : fget es name = none) (h5 : 16 ≤ es.length) :
    Fn Try.prog 34 [vP 1001, vS name, vI n] (flB 1001 1002 room es) [] (.tup [vNilP, vErr 41]) (flB 1001 1002 room es) := by
  refine Fn.of tblOK [] _ _ _ _ _ Try.func34 rfl rfl (by kernel_rfl) (by kernel_rfl) rfl (drawOK tblOK) rfl ?_
  refine ⟨_, _, _, _, Fn.ren [(1001, 2001)] (snew_ok n room h2), trivial, rfl, ?_⟩
  refine ⟨_, _, _, _, files_Right_fn _ hl, trivial, rfl, ?_⟩
  refine ⟨fun e1 => ?_, fun e1 => ?_⟩
  · rw [h1] at e1; cases e1
  refine ⟨fun e2 => ?_, fun e2 => ?_⟩
  · exact absurd e2 (by decide)
  refine ⟨fun b' e3 => ?_, fun e3 => ?_⟩
  · exfalso
    have : fget es name = some b' := e3
    rw [h4] at this
    cases this
  refine ⟨fun e4 => ?_, fun e4 => ?_⟩
  · exact ⟨_, _, _, Le.refl _ _, rfl, ⟨rfl, rfl, trivial⟩, ⟨rfl, rfl, trivial⟩, rfl⟩
  · exfalso
    simp at e4
    omega
end Go.Proofs.Ythghcdddambaeaa
