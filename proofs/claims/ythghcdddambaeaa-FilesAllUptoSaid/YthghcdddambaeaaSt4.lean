/-
  The store: Flush and Copy on the object; Contains of numbers; Crash.
-/
import Derived.Test.YthghcdddambaeaaSt3
set_option linter.unusedVariables false
set_option linter.unusedSimpArgs false
set_option maxRecDepth 10000
namespace Go.Proofs.Ythghcdddambaeaa
open Go.RowKit Go.Proofs
/-- From the blocks laid open to the object; behind it they have other numbers. -/
theorem stCloseR {f : FuncId} {args : List SV} {m m' : StM} {Bi Bo : BL} {res : SV} {nw : List Nat} {d e g : Nat} (l : List (Nat × Nat)) (h : Fn Try.prog f args (stB 1001 1002 1003 1004 m ++ Bi) nw res (stB 1001 d e g m' ++ Bo))
    (hl : rn (mkRn l []) 1001 = 1001 ∧ rn (mkRn l []) d = 1002 ∧ rn (mkRn l []) e = 1003 ∧ rn (mkRn l []) g = 1004)
    (h1 : closeIn 1001 stX args (stB 1001 1002 1003 1004 m) Bi nw [] = true) (h2 : closeOut 1001 (hidOf stX nw []) res (stB 1001 d e g m') Bo = true) :
    Fn Try.prog f args ((1001, .obj (stO m)) :: Bi) [] res ((1001, .obj (stO m')) :: Bo) :=
  (FnX.close (Bl := stB 1001 1002 1003 1004 m) (Bl' := fun _ : Unit => stB 1001 d e g m') (Bo := fun _ => Bo) (o := stO m) (o' := fun _ => stO m') stX h.x (fun _ _ _ _ h => h) (fun _ I F w p hh => by
    have := grpR.ren l hh
    obtain ⟨e1, e2, e3, e4⟩ := hl
    simp only [stB, rnB, e1, e2, e3, e4, Ch.rn, rnL, S1.rn] at this
    exact this) h1 (fun _ => h2)).fn
theorem sflush_fn (m : StM) : Fn Try.prog 82 [vP 1001] [(1001, .obj (stO m))] [] vU [(1001, .obj (stO m.flush))] :=
  stCloseR (Bi := []) (Bo := []) [(2001, 1002), (2002, 1004)] (sflushB_fn m) ⟨rfl, rfl, rfl, rfl⟩ rfl rfl
theorem stO_ren {m : StM} {c d e g : Nat} (l : List (Nat × Nat)) (hl : rn (mkRn l []) c = 1001 ∧ rn (mkRn l []) d = 1002 ∧ rn (mkRn l []) e = 1003 ∧ rn (mkRn l []) g = 1004) {I F : Nat → Prop} {w : World} {p : Pl} (h : grpR c (stB c d e g m) I F w p) : (stO m).R I F w p := by
  have := grpR.ren l h
  obtain ⟨e1, e2, e3, e4⟩ := hl
  simp only [stB, rnB, e1, e2, e3, e4, Ch.rn, rnL, S1.rn] at this
  exact this
theorem scopy_fn (m : StM) (hl : m.loose.length ≤ 4294967296) : Fn Try.prog 102 [vP 1001] [(1001, .obj (stO m))] [2001] (vP 2001) [(1001, .obj (stO m)), (2001, .obj (stO m))] := by
  refine (FnX.close (c := 1001) (args := [vP 1001]) (Bi := []) (nw := [2001]) (nw' := [2001]) (X := Unit) (res := fun _ => vP 2001) (Bl := stB 1001 1002 1003 1004 m) (Bl' := fun _ => stB 1001 1002 1003 1004 m) (Bo := fun _ => [(2001, .obj (stO m))]) (o := stO m) (o' := fun _ => stO m) stX (Fn.x ?_) (fun _ _ _ _ h => h) (fun _ _ _ _ _ h => h) rfl (fun _ => rfl)).fn
  show Fn _ _ _ (stB 1001 1002 1003 1004 m) _ _ (stB 1001 1002 1003 1004 m ++ [(2001, .obj (stO m))])
  refine Fn.of tblOK [] _ _ _ _ _ Try.func102 rfl rfl (by kernel_rfl) (by kernel_rfl) rfl (drawOK tblOK) rfl ?_
  refine ⟨_, _, _, _, Fn.ren [(1001, 1002), (2001, 3002)] (mapsCloneX_fn m.safe), ⟨rfl, trivial⟩, rfl, ?_⟩
  refine ⟨_, _, _, _, Fn.ren [(1001, 1003), (2001, 3003)] (mapsCloneX_fn m.seen), ⟨rfl, trivial⟩, rfl, ?_⟩
  refine ⟨_, _, _, _, Fn.ren [(1001, 1004), (1002, 3004)] (cloneW_fn m.loose hl), ⟨rfl, trivial⟩, rfl, ?_⟩
  refine ⟨rfl, ?_⟩
  refine ⟨rfl, ?_⟩
  exact ⟨_, _, _, (Le.ren 27 2001 rfl).trans (Le.close 2001 (stB 2001 3002 3003 3004 m) (o := stO m) ⟨rfl, rfl, rfl, rfl, trivial⟩ rfl fun _ _ _ _ h => stO_ren [(2001, 1001), (3002, 1002), (3003, 1003), (3004, 1004)] ⟨rfl, rfl, rfl, rfl⟩ h), rfl, rfl, ⟨rfl, rfl, rfl, rfl, rfl, trivial⟩, rfl⟩
theorem lgAt {α : Type} {L : List α} {n : Nat} (h : n < L.length) : lget L n = some L[n] := List.getElem?_eq_getElem h
/-- Where a number stands first; -1: nowhere. -/
def idxI (l : List Int) (v : Int) : Int := match l.idxOf? v with
  | some i => (i : Nat)
  | none => -1
theorem indexI_fn (l : List Int) (v : Int) (hl : l.length ≤ 4294967296) : Fn Try.prog 144 [vL uI l, vI v] [] [] (vI (idxI l v)) [] := by
  refine Fn.of tblOK [] _ _ _ _ _ Try.func144 rfl rfl (by kernel_rfl) (by kernel_rfl) rfl (drawOK tblOK) rfl ?_
  show TrQ _ _ _ _ _ _ _
  refine TrQ.loop tblOK (drawOK tblOK) [] (by kernel_rfl) (X := Nat) (fun k => [(0, vL uI l), (1, vI v), (7, vI (l.length : Nat)), (8, vI (k : Nat))]) (fun _ => []) (fun k => k ≤ l.length ∧ ∀ (i : Nat), i < k → l[i]? ≠ some v) (fun k => l.length - k) 0 ⟨Nat.zero_le _, fun i h => absurd h (Nat.not_lt_zero _)⟩ ?_ ?_
  · exact Le.sub ⟨rfl, rfl, rfl, rfl, trivial⟩ trivial
  intro k ⟨hk, hp⟩
  refine ⟨fun h => ?_, fun h => ?_⟩
  · have hk1 : k < l.length := by
      have h : decide ((k : Int) < (l.length : Int)) = true := h
      simpa using h
    refine ⟨by omega, l[k], lgAt (n := k) hk1, ?_⟩
    refine ⟨fun h2 => ?_, fun h2 => ?_⟩
    · have h2 : v = l[k] := of_decide_eq_true h2
      refine ⟨_, _, _, Le.refl _ _, rfl, (show ((k : Nat) : Int) = idxI l v from ?_), trivial, rfl⟩
      have : l.idxOf? v = some k := by
        rw [List.idxOf?_eq_some_iff]
        refine ⟨hk1, by simp [h2], fun j hj => ?_⟩
        have := hp j hj
        rw [List.getElem?_eq_getElem (by omega)] at this
        simpa using this
      rw [idxI, this]
    · have h2 : v ≠ l[k] := of_decide_eq_false h2
      refine ⟨by omega, k + 1, ⟨by omega, fun i hi => ?_⟩, by omega, Le.sub ⟨rfl, rfl, rfl, rfl, trivial⟩ trivial⟩
      rcases Nat.lt_or_ge i k with h4 | h4
      · exact hp i h4
      · have : i = k := by omega
        subst this
        rw [List.getElem?_eq_getElem hk1]
        intro e
        injection e with e
        exact h2 e.symm
  · have h : decide ((k : Int) < (l.length : Int)) = false := h
    have hk2 : k = l.length := by simp at h; omega
    refine ⟨_, _, _, Le.refl _ _, rfl, (show (-1 : Int) = idxI l v from ?_), trivial, rfl⟩
    have : l.idxOf? v = none := by
      rw [List.idxOf?_eq_none_iff]
      intro hm
      obtain ⟨i, hi, e⟩ := List.getElem_of_mem hm
      have := hp i (by omega)
      rw [List.getElem?_eq_getElem hi] at this
      exact this (by rw [e])
    rw [idxI, this]
theorem containsI_fn (l : List Int) (v : Int) (hl : l.length ≤ 4294967296) : Fn Try.prog 133 [vL uI l, vI v] [] [] (vB (l.contains v)) [] := by
  refine Fn.of tblOK [] _ _ _ _ _ Try.func133 rfl rfl (by kernel_rfl) (by kernel_rfl) rfl (drawOK tblOK) rfl ?_
  refine ⟨_, _, _, _, indexI_fn l v hl, trivial, rfl, ?_⟩
  refine ⟨_, _, _, Le.refl _ _, rfl, (show decide (0 ≤ idxI l v) = l.contains v from ?_), trivial, rfl⟩
  unfold idxI
  cases h : l.idxOf? v with
  | none =>
    rw [List.idxOf?_eq_none_iff] at h
    simp [h]
  | some i =>
    obtain ⟨hi, e, _⟩ := List.idxOf?_eq_some_iff.1 h
    have : v ∈ l := by
      have := List.getElem_mem hi
      rwa [show l[i] = v by simpa using e] at this
    simp [this]
end Go.Proofs.Ythghcdddambaeaa
