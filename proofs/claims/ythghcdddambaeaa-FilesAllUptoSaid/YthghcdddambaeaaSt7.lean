/-
  The store: Resize, Read.
-/
import Derived.Test.YthghcdddambaeaaSt6
set_option linter.unusedVariables false
set_option linter.unusedSimpArgs false
set_option maxRecDepth 10000
namespace Go.Proofs.Ythghcdddambaeaa
open Go.RowKit Go.Proofs
def StM.resize (m : StM) (n : Int) : StM := ⟨n, m.room, m.seen.filter fun p => decide ((show Int from p.1) < n), m.seen.filter fun p => decide ((show Int from p.1) < n), []⟩
def keysI {vu : U} (es : List (El uI × El vu)) : List Int := es.map fun p => (show Int from p.1)
theorem sresize_no (m : StM) (n : Int) (h : srightN n = false) : Fn Try.prog 104 [vP 1001, vI n] [(1001, .obj (stO m))] [] (vI 1) [(1001, .obj (stO m))] := by
  refine stClose (Bi := []) (Bo := []) (nw := []) ?_ rfl rfl
  refine Fn.of tblOK [] _ _ _ _ _ Try.func104 rfl rfl (by kernel_rfl) (by kernel_rfl) rfl (drawOK tblOK) rfl ?_
  refine ⟨rfl, ?_⟩
  refine ⟨_, _, _, _, sright_spec n, trivial, rfl, ?_⟩
  rw [h]
  exact ⟨fun _ => ⟨_, _, _, Le.refl _ _, rfl, rfl, ⟨rfl, rfl, rfl, rfl, trivial⟩, rfl⟩, fun h => absurd h (by decide)⟩
theorem sresize_ok (m : StM) (n : Int) (h : srightN n = true) (hn : (keysI m.seen).Nodup) : Fn Try.prog 104 [vP 1001, vI n] [(1001, .obj (stO m))] [] (vI 0) [(1001, .obj (stO (m.resize n)))] := by
  refine stCloseR (Bi := []) (Bo := []) (nw := [2001, 2002]) (d := 2001) (e := 1003) (g := 2002) [(2001, 1002), (2002, 1004)] ?_ ⟨rfl, rfl, rfl, rfl⟩ rfl rfl
  refine Fn.of tblOK [] _ _ _ _ _ Try.func104 rfl rfl (by kernel_rfl) (by kernel_rfl) rfl (drawOK tblOK) rfl ?_
  refine ⟨rfl, ?_⟩
  refine ⟨_, _, _, _, sright_spec n, trivial, rfl, ?_⟩
  rw [h]
  refine ⟨fun h => absurd h (by decide), fun _ => ?_⟩
  refine ⟨_, _, _, _, Fn.ren [(1001, 1003), (1002, 3)] (deleteFunc_fn n m.seen hn), ⟨rfl, rfl, trivial⟩, rfl, ?_⟩
  refine ⟨_, _, _, _, sflushB_fn ⟨n, m.room, m.safe, m.seen.filter fun p => decide ((show Int from p.1) < n), m.loose⟩, ⟨rfl, rfl, rfl, rfl, trivial⟩, rfl, ?_⟩
  exact ⟨_, _, _, Le.refl _ _, rfl, rfl, ⟨rfl, rfl, rfl, rfl, trivial⟩, rfl⟩
/-- What a sector reads as; sectors. -/
def secAt (s : SMap) (a : Int) : El uX := (mget s (a : El uI)).getD (dflt uX)
def secB (s : SMap) (a : Int) : List UInt8 := secAt s a
def readB (s : SMap) (a : Int) (k : Nat) : List UInt8 := (List.range k).flatMap fun i => secB s (a + (i : Nat))
def WfS (s : SMap) : Prop := ∀ p ∈ s, WfX p.2
theorem mget_mem {ku vu : U} {k : El ku} {x : El vu} : ∀ {l : List (El ku × El vu)}, mget l k = some x → ∃ p ∈ l, p.2 = x
  | [], h => by cases h
  | p :: l, h => by
    unfold mget at h
    split at h
    · injection h with h
      exact ⟨p, List.mem_cons_self .., h⟩
    · obtain ⟨q, hq, e⟩ := mget_mem h
      exact ⟨q, List.mem_cons_of_mem _ hq, e⟩
theorem secAt_wf {s : SMap} (h : WfS s) (a : Int) : WfX (secAt s a) := by
  unfold secAt
  cases e : mget s (a : El uI) with
  | none => exact List.length_replicate
  | some x =>
    obtain ⟨p, hp, e⟩ := mget_mem e
    rw [← e]
    exact h p hp
theorem readB_snoc (s : SMap) (a : Int) (k : Nat) : readB s a (k + 1) = readB s a k ++ secB s (a + (k : Nat)) := by
  unfold readB
  rw [List.range_succ, List.flatMap_append]
  simp
theorem readB_length {s : SMap} (h : WfS s) (a : Int) : ∀ k, (readB s a k).length = 16 * k
  | 0 => rfl
  | k + 1 => by
    have e : (secB s (a + (k : Nat))).length = 16 := secAt_wf h _
    rw [readB_snoc, List.length_append, readB_length h a k]
    omega
@[reducible] def vNilB : SC := .one (.d (.lst .u8 []))
@[reducible] def rdK (at_ long : Int) (k r : Nat) : KL := [(0, vP 1001), (1, vI at_), (2, vI long), (8, vOwn r), (20, vI long), (21, vI (k : Nat))]
@[reducible] def rdB (m : StM) (r : Nat) (x : List UInt8) : BL := stB 1001 1002 1003 1004 m ++ [(r, .row 5 .u8 x)]
theorem sread_arg (m : StM) (at_ long : Int) (h : long < 0) : Fn Try.prog 53 [vP 1001, vI at_, vI long] [(1001, .obj (stO m))] [] (.tup [vNilB, vErr 1]) [(1001, .obj (stO m))] := by
  refine stClose (Bi := []) (Bo := []) (nw := []) ?_ rfl rfl
  refine Fn.of tblOK [] _ _ _ _ _ Try.func53 rfl rfl (by kernel_rfl) (by kernel_rfl) rfl (drawOK tblOK) rfl ?_
  refine ⟨fun _ => ?_, fun h1 => ?_⟩
  · exact ⟨_, _, _, Le.refl _ _, rfl, ⟨rfl, rfl, trivial⟩, ⟨rfl, rfl, rfl, rfl, trivial⟩, rfl⟩
  · exact absurd h (of_decide_eq_false h1)
theorem sread_end (m : StM) (at_ long : Int) (h : 0 ≤ long) (hi : m.insideB at_ long = false) (h1 : 0 ≤ m.n) (h2 : m.n ≤ 4096) : Fn Try.prog 53 [vP 1001, vI at_, vI long] [(1001, .obj (stO m))] [] (.tup [vNilB, vErr 31]) [(1001, .obj (stO m))] := by
  refine stClose (Bi := []) (Bo := []) (nw := []) ?_ rfl rfl
  refine Fn.of tblOK [] _ _ _ _ _ Try.func53 rfl rfl (by kernel_rfl) (by kernel_rfl) rfl (drawOK tblOK) rfl ?_
  refine ⟨fun h1 => ?_, fun _ => ?_⟩
  · have h1 : long < 0 := of_decide_eq_true h1
    omega
  refine ⟨_, _, _, _, sinside_fn m at_ long h h1 h2, ⟨rfl, rfl, rfl, rfl, trivial⟩, rfl, ?_⟩
  rw [hi]
  refine ⟨fun _ => ?_, fun h => absurd h (by decide)⟩
  exact ⟨_, _, _, Le.refl _ _, rfl, ⟨rfl, rfl, trivial⟩, ⟨rfl, rfl, rfl, rfl, trivial⟩, rfl⟩
theorem sread_ok (m : StM) (at_ long : Int) (h : 0 ≤ long) (hi : m.insideB at_ long = true) (h1 : 0 ≤ m.n) (h2 : m.n ≤ 4096) (hw : WfS m.seen) : Fn Try.prog 53 [vP 1001, vI at_, vI long] [(1001, .obj (stO m))] [] (.tup [.one (.d (.lst .u8 (readB m.seen at_ long.toNat))), vErr 0]) [(1001, .obj (stO m))] := by
  refine stClose (Bi := []) (Bo := []) (nw := []) ?_ rfl rfl
  refine Fn.of tblOK [] _ _ _ _ _ Try.func53 rfl rfl (by kernel_rfl) (by kernel_rfl) rfl (drawOK tblOK) rfl ?_
  refine ⟨fun h1 => ?_, fun _ => ?_⟩
  · have h1 : long < 0 := of_decide_eq_true h1
    omega
  refine ⟨_, _, _, _, sinside_fn m at_ long h h1 h2, ⟨rfl, rfl, rfl, rfl, trivial⟩, rfl, ?_⟩
  rw [hi]
  refine ⟨fun h => absurd h (by decide), fun _ => ?_⟩
  simp only [StM.insideB, Bool.and_eq_true, decide_eq_true_eq] at hi
  obtain ⟨⟨i1, i2⟩, i3⟩ := hi
  show TrQ _ _ _ _ _ _ _
  refine TrQ.loop tblOK (drawOK tblOK) [] (by kernel_rfl) (X := Nat) (fun k => rdK at_ long k 2003) (fun k => rdB m 2003 (readB m.seen at_ k)) (fun k => (k : Int) ≤ long) (fun k => long.toNat - k) 0 h ?_ ?_
  · exact Le.trans (Le.nil 8 2003 5 .u8 rfl rfl) (Le.sub ⟨rfl, rfl, rfl, rfl, rfl, rfl, trivial⟩ ⟨rfl, rfl, rfl, rfl, rfl, trivial⟩)
  intro k hk
  refine ⟨fun hc => ?_, fun hc => ?_⟩
  · have hk1 : (k : Int) < long := of_decide_eq_true hc
    have hwf := secAt_wf hw (at_ + (k : Nat))
    have hlen := readB_length hw at_ k
    refine ⟨by omega, ?_⟩
    refine ⟨rfl, ?_⟩
    refine ⟨secAt m.seen (at_ + (k : Nat)), ⟨hwf.wf, rfl⟩, ?_⟩
    have e1 : (readB m.seen at_ k).length + (secB m.seen (at_ + (k : Nat))).length ≤ 4294967296 := by
      have : (secB m.seen (at_ + (k : Nat))).length = 16 := hwf
      omega
    refine ⟨e1, rfl, ?_⟩
    refine ⟨by omega, k + 1, by omega, by omega, Le.trans (Le.sub (K' := rdK at_ long (k + 1) 34) (B' := rdB m 34 (readB m.seen at_ (k + 1))) ⟨rfl, rfl, rfl, rfl, rfl, rfl, trivial⟩ ⟨rfl, rfl, rfl, rfl, ?_, trivial⟩) (Le.ren 34 2003 rfl)⟩
    rw [readB_snoc]
    rfl
  · have hk1 : k = long.toNat := by
      have : ¬ (k : Int) < long := of_decide_eq_false hc
      omega
    subst hk1
    exact ⟨_, _, _, Le.frz 2003 rfl, rfl, ⟨rfl, rfl, trivial⟩, ⟨rfl, rfl, rfl, rfl, trivial⟩, rfl⟩
end Go.Proofs.Ythghcdddambaeaa
