/-
  The store: Crash.
-/
import Derived.Test.YthghcdddambaeaaSt4
set_option linter.unusedVariables false
set_option linter.unusedSimpArgs false
set_option maxRecDepth 10000
namespace Go.Proofs.Ythghcdddambaeaa
open Go.RowKit Go.Proofs
abbrev SMap := List (El uI × El uX)
/-- A sector has as many bytes as it has. -/
def WfX (x : El uX) : Prop := List.length (α := UInt8) x = 16
theorem WfX.wf {x : El uX} (h : WfX x) : WfU uX x := ⟨h, fun _ _ => trivial⟩
/-- What is safe behind a crash: the writes from the k-th on that are kept. -/
def crashS (keep : List Int) : Nat → List (El uW) → SMap → SMap
  | _, [], s => s
  | k, w :: l, s => crashS keep (k + 1) l (match keep.contains (k : Int) with
    | true => mput s w.1 w.2
    | false => s)
theorem crashS_snoc (keep : List Int) (w : El uW) : ∀ (l : List (El uW)) (k : Nat) (s : SMap), crashS keep k (l ++ [w]) s = match keep.contains ((k + l.length : Nat) : Int) with
    | true => mput (crashS keep k l s) w.1 w.2
    | false => crashS keep k l s
  | [], k, s => rfl
  | v :: l, k, s => by
    rw [List.cons_append, crashS, crashS_snoc keep w l (k + 1)]
    rw [show k + 1 + l.length = k + (v :: l).length by simp; omega]
    rfl
def StM.crash (m : StM) (keep : List Int) : StM := let s := crashS keep 0 m.loose m.safe; { m with safe := s, seen := s, loose := [] }
theorem kept_fn (keep : List Int) (k : Int) (hl : keep.length ≤ 4294967296) : Fn Try.prog 132 [vI k, vP 1001] [(1001, .cells [.d (.lst uI keep)])] [] (vB (keep.contains k)) [(1001, .cells [.d (.lst uI keep)])] := by
  refine Fn.of tblOK [] _ _ _ _ _ Try.func132 rfl rfl (by kernel_rfl) (by kernel_rfl) rfl (drawOK tblOK) rfl ?_
  refine ⟨_, _, _, _, containsI_fn keep k hl, trivial, rfl, ?_⟩
  exact ⟨_, _, _, Le.refl _ _, rfl, rfl, ⟨rfl, trivial⟩, rfl⟩
@[reducible] def crK (m : StM) (keep : List Int) (k : Nat) : KL := [(0, vP 1001), (4, .c (.one (.clo 132 [.p 3 0]))), (11, vOwn 1004), (12, vI (m.loose.length : Nat)), (13, vI (k : Nat))]
@[reducible] def crB (m : StM) (keep : List Int) (s : SMap) : BL := stB 1001 1002 1003 1004 { m with safe := s } ++ [(3, .cells [.d (.lst uI keep)])]
theorem scrashB_fn (m : StM) (keep : List Int) (hk : keep.length ≤ 4294967296) (hl : m.loose.length ≤ 4294967296) (hw : ∀ w, w ∈ m.loose → WfX w.2) :
    Fn Try.prog 103 [vP 1001, vL uI keep] (stB 1001 1002 1003 1004 m) [2001, 2002] vU (stB 1001 1002 2001 2002 (m.crash keep)) := by
  refine Fn.of tblOK [] _ _ _ _ _ Try.func103 rfl rfl (by kernel_rfl) (by kernel_rfl) rfl (drawOK tblOK) rfl ?_
  refine ⟨rfl, ?_⟩
  show TrQ _ _ _ _ _ _ _
  refine TrQ.loop tblOK (drawOK tblOK) [] (by kernel_rfl) (X := Nat) (crK m keep) (fun k => crB m keep (crashS keep 0 (m.loose.take k) m.safe)) (fun k => k ≤ m.loose.length) (fun k => m.loose.length - k) 0 (Nat.zero_le _) ?_ ?_
  · exact Le.sub ⟨rfl, rfl, rfl, rfl, rfl, trivial⟩ ⟨rfl, rfl, rfl, rfl, rfl, trivial⟩
  intro k hk1
  refine ⟨fun h => ?_, fun h => ?_⟩
  · have hk2 : k < m.loose.length := by
      have h : decide ((k : Int) < (m.loose.length : Int)) = true := h
      simpa using h
    have hwf := hw _ (List.getElem_mem hk2)
    have hsn : crashS keep 0 (m.loose.take (k + 1)) m.safe = match keep.contains (k : Int) with
        | true => mput (crashS keep 0 (m.loose.take k) m.safe) (m.loose[k]).1 (m.loose[k]).2
        | false => crashS keep 0 (m.loose.take k) m.safe := by
      rw [List.take_succ_eq_append_getElem hk2, crashS_snoc, List.length_take, Nat.min_eq_left (by omega), Nat.zero_add]
    refine ⟨⟨by omega, by show (k : Int) < (m.loose.length : Nat); omega⟩, ?_⟩
    refine ⟨m.loose[k], lgAt (n := k) hk2, ?_⟩
    refine ⟨rfl, ?_⟩
    refine ⟨_, _, _, _, Fn.ren [(1001, 3)] (kept_fn keep (k : Nat) hk), ⟨rfl, trivial⟩, rfl, ?_⟩
    refine ⟨fun h2 => ?_, fun h2 => ?_⟩
    · rw [h2] at hsn
      refine ⟨(m.loose[k]).2, ⟨hwf.wf, rfl⟩, ?_⟩
      refine ⟨rfl, ?_⟩
      refine ⟨by omega, k + 1, by omega, by omega, Le.sub ⟨rfl, rfl, rfl, rfl, rfl, trivial⟩ ⟨rfl, ?_, rfl, rfl, rfl, trivial⟩⟩
      rw [hsn]
      rfl
    · rw [h2] at hsn
      refine ⟨by omega, k + 1, by omega, by omega, Le.sub ⟨rfl, rfl, rfl, rfl, rfl, trivial⟩ ⟨rfl, ?_, rfl, rfl, rfl, trivial⟩⟩
      rw [hsn]
      rfl
  · have h : decide ((k : Int) < (m.loose.length : Int)) = false := h
    have hk2 : k = m.loose.length := by simp at h; omega
    subst hk2
    rw [List.take_length]
    refine ⟨_, _, _, _, Fn.ren [(1001, 1002)] (mapsCloneX_fn (crashS keep 0 m.loose m.safe)), ⟨rfl, trivial⟩, rfl, ?_⟩
    exact ⟨_, _, _, Le.nilc 1001 4 2002 198 uW rfl rfl rfl, rfl, trivial, ⟨rfl, rfl, rfl, rfl, trivial⟩, rfl⟩
theorem scrash_fn (m : StM) (keep : List Int) (hk : keep.length ≤ 4294967296) (hl : m.loose.length ≤ 4294967296) (hw : ∀ w, w ∈ m.loose → WfX w.2) :
    Fn Try.prog 103 [vP 1001, vL uI keep] [(1001, .obj (stO m))] [] vU [(1001, .obj (stO (m.crash keep)))] :=
  stCloseR (Bi := []) (Bo := []) [(2001, 1003), (2002, 1004)] (scrashB_fn m keep hk hl hw) ⟨rfl, rfl, rfl, rfl⟩ rfl rfl
end Go.Proofs.Ythghcdddambaeaa
