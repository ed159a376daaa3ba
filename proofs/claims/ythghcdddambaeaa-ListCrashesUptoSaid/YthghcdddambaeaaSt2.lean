/-
  The store: Len, Used, Loose, Room, inside; copies of maps and rows.
-/
import Derived.Test.YthghcdddambaeaaSt
import Derived.Test.YthghcdddambaeaaRg
import Derived.Test.YthghcdddambaeaaLays
set_option linter.unusedVariables false
set_option linter.unusedSimpArgs false
set_option maxRecDepth 10000
namespace Go.Proofs.Ythghcdddambaeaa
open Go.RowKit Go.Proofs
theorem mapsClone_gen {ρ : Go.Shelf.Ren} (L : SlLaysW.n5 Try.prog ρ) (hcall : callable Try.prog (ρ.f 5) = true) {ku vu : U} (es : List (El ku × El vu)) :
    Fn Try.prog (ρ.f 5) [.c (.one (.mp 1001))] [(1001, .map ku vu es)] [2001] (.c (.one (.mp 2001))) [(1001, .map ku vu es), (2001, .map ku vu es)] := by
  refine ⟨hcall, fun ρ F I w vals hI hH hF hdj hlen hden => ?_⟩
  match vals, hlen with
  | [v], _ =>
    obtain rfl : v = .map (some (ρ 1001).blk) := hden 0 _ v rfl rfl
    obtain ⟨hF1, ents, clock, hb, hm, hB⟩ := hH 1001 _ rfl
    refine (AnyW.maps_Clone L _ _ _ w hb).mono ?_
    rintro e w' ⟨rfl, rfl⟩
    have hbel : Below w.heap.size w (w.alloc (.map (List.toArray ents) clock)) := (Below.refl _ _).alloc (Nat.le_refl _) _
    have hE : Ext I w I (w.alloc (.map (List.toArray ents) clock)) := fun b hbI => ⟨hbI, hbel.block b (hI b hbI)⟩
    have hlt := lt_of_heap hb
    refine ⟨_, upd ρ 2001 ⟨w.heap.size, none, 0, 0⟩, upd F 2001 (fun b => b = w.heap.size), rfl, Fr.of_below hbel, fun c hc => upd_other _ _ (fun e => hc (by simp [e])), I, hE, fun b hbI => ⟨Nat.lt_of_lt_of_le (hI b hbI) hbel.size, .inl hbI⟩, ?_, ?_, ?_, ?_⟩
    · intro c ch hc
      rw [lookB_cons] at hc
      split at hc
      · rename_i hc1; subst hc1; injection hc with hc; subst hc
        rw [upd_other _ _ (by decide), upd_other _ _ (by decide)]
        exact ⟨hF1, ents, clock, (hbel.block _ hlt).trans hb, hm.mono hE, hB⟩
      · rw [lookB_cons] at hc
        split at hc
        · rename_i hc1; subst hc1; injection hc with hc; subst hc
          rw [upd_same, upd_same]
          exact ⟨fun b => Iff.rfl, ents, clock, heap_alloc_new w _, hm.mono hE, hB⟩
        · simp [lookB] at hc
    · intro c ch hc b hbF
      rw [lookB_cons] at hc
      split at hc
      · rename_i hc1; subst hc1
        rw [upd_other _ _ (by decide)] at hbF
        have := hF 1001 _ rfl b hbF
        exact ⟨Nat.lt_of_lt_of_le this.1 hbel.size, this.2, .inl ⟨1001, _, rfl, hbF⟩⟩
      · rw [lookB_cons] at hc
        split at hc
        · rename_i hc1; subst hc1
          rw [upd_same] at hbF
          subst hbF
          exact ⟨by simp, fun hbI => by have := hI _ hbI; omega, .inr (Nat.le_refl _)⟩
        · simp [lookB] at hc
    · intro c c' ch ch' b hc hc' hne hb1 hb2
      have key : ∀ c ch, lookB [(1001, Ch.map ku vu es), (2001, Ch.map ku vu es)] c = some ch → c = 1001 ∨ c = 2001 := fun c ch hc => by
        rw [lookB_cons] at hc
        split at hc
        · rename_i h; exact .inl h.symm
        · rw [lookB_cons] at hc
          split at hc
          · rename_i h; exact .inr h.symm
          · simp [lookB] at hc
      rcases key c ch hc with rfl | rfl <;> rcases key c' ch' hc' with rfl | rfl
      · exact hne rfl
      · rw [upd_other _ _ (by decide)] at hb1
        rw [upd_same] at hb2
        have := (hF 1001 _ rfl b hb1).1
        omega
      · rw [upd_other _ _ (by decide)] at hb2
        rw [upd_same] at hb1
        have := (hF 1001 _ rfl b hb2).1
        omega
      · exact hne rfl
    · show Value.map (some w.heap.size) = Value.map (some (upd ρ 2001 _ 2001).blk)
      rw [upd_same]
theorem mapsCloneX_fn (es : List (El uI × El uX)) : Fn Try.prog 117 [.c (.one (.mp 1001))] [(1001, .map uI uX es)] [2001] (.c (.one (.mp 2001))) [(1001, .map uI uX es), (2001, .map uI uX es)] :=
  mapsClone_gen Try.clone117 (by kernel_rfl) es
theorem cloneW_fn (L : List (El uW)) (hL : L.length ≤ 4294967296) : Fn Try.prog 131 [vOwn 1001] [(1001, .row 198 uW L)] [1002] (vOwn 1002) [(1001, .row 198 uW L), (1002, .row 198 uW L)] := by
  refine Fn.of tblOK [1] _ _ _ _ _ Try.func131 rfl rfl (by kernel_rfl) (by kernel_rfl) rfl (drawOK tblOK) rfl ?_
  show TrQ _ _ _ _ _ _ _
  refine TrQ.regionX tblOK (by kernel_rfl) ?_
  refine ⟨_, opS_ownNil (c := 1001) rfl rfl rfl Try.underlying175, fun v e h => ?_⟩
  obtain ⟨b, hb, rfl, rfl⟩ := h
  cases b
  · refine ⟨rfl, ?_⟩
    refine ⟨by simpa using hL, rfl, ?_⟩
    exact ⟨_, _, _, Le.ren 7 1002 rfl, rfl, rfl, ⟨rfl, rfl, trivial⟩, rfl⟩
  · have hb := hb rfl
    subst hb
    exact ⟨_, _, _, Le.nil 2 1002 198 uW rfl rfl, rfl, rfl, ⟨rfl, rfl, trivial⟩, rfl⟩
/-! The store: Len, Used, Loose, Room, inside, Flush, Copy, as contracts on the object. -/
@[reducible] def stX : List Nat := [1002, 1003, 1004]
/-- From the blocks laid open to the object. -/
theorem stClose {f : FuncId} {args : List SV} {m m' : StM} {Bi Bo : BL} {res : SV} {nw : List Nat} (h : Fn Try.prog f args (stB 1001 1002 1003 1004 m ++ Bi) nw res (stB 1001 1002 1003 1004 m' ++ Bo))
    (h1 : closeIn 1001 stX args (stB 1001 1002 1003 1004 m) Bi nw [] = true) (h2 : closeOut 1001 (hidOf stX nw []) res (stB 1001 1002 1003 1004 m') Bo = true) :
    Fn Try.prog f args ((1001, .obj (stO m)) :: Bi) [] res ((1001, .obj (stO m')) :: Bo) :=
  (FnX.close (Bl := stB 1001 1002 1003 1004 m) (Bl' := fun _ : Unit => stB 1001 1002 1003 1004 m') (Bo := fun _ => Bo) (o := stO m) (o' := fun _ => stO m') stX h.x (fun _ _ _ _ h => h) (fun _ _ _ _ _ h => h) h1 (fun _ => h2)).fn
@[reducible] def vU : SV := .tup []
def StM.insideB (m : StM) (at_ long : Int) : Bool := decide (0 ≤ at_) && decide (long ≤ m.n) && decide (at_ ≤ m.n - long)
theorem slen_fn (m : StM) : Fn Try.prog 54 [vP 1001] [(1001, .obj (stO m))] [] (vI m.n) [(1001, .obj (stO m))] := by
  refine stClose (Bi := []) (Bo := []) (nw := []) ?_ rfl rfl
  refine Fn.of tblOK [] _ _ _ _ _ Try.func54 rfl rfl (by kernel_rfl) (by kernel_rfl) rfl (drawOK tblOK) rfl ?_
  exact ⟨_, _, _, Le.refl _ _, rfl, rfl, ⟨rfl, rfl, rfl, rfl, trivial⟩, rfl⟩
theorem sused_fn (m : StM) : Fn Try.prog 118 [vP 1001] (stB 1001 1002 1003 1004 m) [] (vI (m.seen.length : Nat)) (stB 1001 1002 1003 1004 m) := by
  refine Fn.of tblOK [] _ _ _ _ _ Try.func118 rfl rfl (by kernel_rfl) (by kernel_rfl) rfl (drawOK tblOK) rfl ?_
  exact ⟨_, _, _, Le.refl _ _, rfl, rfl, ⟨rfl, rfl, rfl, rfl, trivial⟩, rfl⟩
theorem sloose_fn (m : StM) : Fn Try.prog 51 [vP 1001] [(1001, .obj (stO m))] [] (vI (m.loose.length : Nat)) [(1001, .obj (stO m))] := by
  refine stClose (Bi := []) (Bo := []) (nw := []) ?_ rfl rfl
  refine Fn.of tblOK [] _ _ _ _ _ Try.func51 rfl rfl (by kernel_rfl) (by kernel_rfl) rfl (drawOK tblOK) rfl ?_
  exact ⟨_, _, _, Le.refl _ _, rfl, rfl, ⟨rfl, rfl, rfl, rfl, trivial⟩, rfl⟩
theorem sroom_fn (m : StM) (r : Int) : Fn Try.prog 105 [vP 1001, vI r] [(1001, .obj (stO m))] [] vU [(1001, .obj (stO { m with room := max r 0 }))] := by
  refine stClose (Bi := []) (Bo := []) (nw := []) ?_ rfl rfl
  refine Fn.of tblOK [] _ _ _ _ _ Try.func105 rfl rfl (by kernel_rfl) (by kernel_rfl) rfl (drawOK tblOK) rfl ?_
  exact ⟨_, _, _, Le.refl _ _, rfl, trivial, ⟨rfl, rfl, rfl, rfl, trivial⟩, rfl⟩
theorem sinside_fn (m : StM) (at_ long : Int) (h0 : 0 ≤ long) (h1 : 0 ≤ m.n) (h2 : m.n ≤ 4096) : Fn Try.prog 106 [vP 1001, vI at_, vI long] (stB 1001 1002 1003 1004 m) [] (vB (m.insideB at_ long)) (stB 1001 1002 1003 1004 m) := by
  refine Fn.of tblOK [] _ _ _ _ _ Try.func106 rfl rfl (by kernel_rfl) (by kernel_rfl) rfl (drawOK tblOK) rfl ?_
  refine ⟨fun h => ?_, fun h => ?_⟩
  · have h : decide (0 ≤ at_) = true := h
    refine ⟨fun h3 => ?_, fun h3 => ?_⟩
    · have h3 : decide (long ≤ m.n) = true := h3
      have h4 : long ≤ m.n := by simpa using h3
      refine ⟨by omega, ?_⟩
      exact ⟨_, _, _, Le.refl _ _, rfl, (show decide (at_ ≤ m.n - long) = m.insideB at_ long by rw [StM.insideB, h, h3]; rfl), ⟨rfl, rfl, rfl, rfl, trivial⟩, rfl⟩
    · have h3 : decide (long ≤ m.n) = false := h3
      exact ⟨_, _, _, Le.refl _ _, rfl, (show false = m.insideB at_ long by rw [StM.insideB, h, h3]; rfl), ⟨rfl, rfl, rfl, rfl, trivial⟩, rfl⟩
  · have h : decide (0 ≤ at_) = false := h
    exact ⟨_, _, _, Le.refl _ _, rfl, (show false = m.insideB at_ long by rw [StM.insideB, h]; rfl), ⟨rfl, rfl, rfl, rfl, trivial⟩, rfl⟩
def StM.flush (m : StM) : StM := { m with safe := m.seen, loose := [] }
/-- Flush on the blocks laid open: the map of what is safe is a new one. -/
theorem sflushB_fn (m : StM) : Fn Try.prog 82 [vP 1001] (stB 1001 1002 1003 1004 m) [2001, 2002] vU (stB 1001 2001 1003 2002 m.flush) := by
  refine Fn.of tblOK [] _ _ _ _ _ Try.func82 rfl rfl (by kernel_rfl) (by kernel_rfl) rfl (drawOK tblOK) rfl ?_
  refine ⟨_, _, _, _, Fn.ren [(1001, 1003)] (mapsCloneX_fn m.seen), ⟨rfl, trivial⟩, rfl, ?_⟩
  exact ⟨_, _, _, Le.nilc 1001 4 2002 198 uW rfl rfl rfl, rfl, trivial, ⟨rfl, rfl, rfl, rfl, trivial⟩, rfl⟩
/-! The store: Flush and Copy on the object; Contains of numbers; Crash. -/
/-- From the blocks laid open to the object; behind it they have other numbers. -/
theorem stCloseR {f : FuncId} {args : List SV} {m m' : StM} {Bi Bo : BL} {res : SV} {nw : List Nat} {d e g : Nat} (l : List (Nat × Nat)) (h : Fn Try.prog f args (stB 1001 1002 1003 1004 m ++ Bi) nw res (stB 1001 d e g m' ++ Bo))
    (hl : rn (mkRn l []) 1001 = 1001 ∧ rn (mkRn l []) d = 1002 ∧ rn (mkRn l []) e = 1003 ∧ rn (mkRn l []) g = 1004)
    (h1 : closeIn 1001 stX args (stB 1001 1002 1003 1004 m) Bi nw [] = true) (h2 : closeOut 1001 (hidOf stX nw []) res (stB 1001 d e g m') Bo = true) :
    Fn Try.prog f args ((1001, .obj (stO m)) :: Bi) [] res ((1001, .obj (stO m')) :: Bo) :=
  (FnX.close (Bl := stB 1001 1002 1003 1004 m) (Bl' := fun _ : Unit => stB 1001 d e g m') (Bo := fun _ => Bo) (o := stO m) (o' := fun _ => stO m') stX h.x (fun _ _ _ _ h => h) (fun _ I F w p hh => by
    have := grpR.ren l hh
    obtain ⟨e1, e2, e3, e4⟩ := hl
    simp only [stB, rnB, e1, e2, e3, e4, Ch.rn, rnL, S1.rn] at this
    exact this) h1 (fun _ => h2)).fn
theorem sflush_fn (m : StM) : Fn Try.prog 82 [vP 1001] [(1001, .obj (stO m))] [] vU [(1001, .obj (stO m.flush))] :=
  stCloseR (Bi := []) (Bo := []) [(2001, 1002), (2002, 1004)] (sflushB_fn m) ⟨rfl, rfl, rfl, rfl⟩ rfl rfl
theorem stO_ren {m : StM} {c d e g : Nat} (l : List (Nat × Nat)) (hl : rn (mkRn l []) c = 1001 ∧ rn (mkRn l []) d = 1002 ∧ rn (mkRn l []) e = 1003 ∧ rn (mkRn l []) g = 1004) {I F : Nat → Prop} {w : World} {p : Pl} (h : grpR c (stB c d e g m) I F w p) : (stO m).R I F w p := by
  have := grpR.ren l h
  obtain ⟨e1, e2, e3, e4⟩ := hl
  simp only [stB, rnB, e1, e2, e3, e4, Ch.rn, rnL, S1.rn] at this
  exact this
theorem scopy_fn (m : StM) (hl : m.loose.length ≤ 4294967296) : Fn Try.prog 102 [vP 1001] [(1001, .obj (stO m))] [2001] (vP 2001) [(1001, .obj (stO m)), (2001, .obj (stO m))] := by
  refine (FnX.close (c := 1001) (args := [vP 1001]) (Bi := []) (nw := [2001]) (nw' := [2001]) (X := Unit) (res := fun _ => vP 2001) (Bl := stB 1001 1002 1003 1004 m) (Bl' := fun _ => stB 1001 1002 1003 1004 m) (Bo := fun _ => [(2001, .obj (stO m))]) (o := stO m) (o' := fun _ => stO m) stX (Fn.x ?_) (fun _ _ _ _ h => h) (fun _ _ _ _ _ h => h) rfl (fun _ => rfl)).fn
  show Fn _ _ _ (stB 1001 1002 1003 1004 m) _ _ (stB 1001 1002 1003 1004 m ++ [(2001, .obj (stO m))])
  refine Fn.of tblOK [] _ _ _ _ _ Try.func102 rfl rfl (by kernel_rfl) (by kernel_rfl) rfl (drawOK tblOK) rfl ?_
  refine ⟨_, _, _, _, Fn.ren [(1001, 1002), (2001, 3002)] (mapsCloneX_fn m.safe), ⟨rfl, trivial⟩, rfl, ?_⟩
  refine ⟨_, _, _, _, Fn.ren [(1001, 1003), (2001, 3003)] (mapsCloneX_fn m.seen), ⟨rfl, trivial⟩, rfl, ?_⟩
  refine ⟨_, _, _, _, Fn.ren [(1001, 1004), (1002, 3004)] (cloneW_fn m.loose hl), ⟨rfl, trivial⟩, rfl, ?_⟩
  refine ⟨rfl, ?_⟩
  refine ⟨rfl, ?_⟩
  exact ⟨_, _, _, (Le.ren 27 2001 rfl).trans (Le.close 2001 (stB 2001 3002 3003 3004 m) (o := stO m) ⟨rfl, rfl, rfl, rfl, trivial⟩ rfl fun _ _ _ _ h => stO_ren [(2001, 1001), (3002, 1002), (3003, 1003), (3004, 1004)] ⟨rfl, rfl, rfl, rfl⟩ h), rfl, rfl, ⟨rfl, rfl, rfl, rfl, rfl, trivial⟩, rfl⟩
theorem lgAt {α : Type} {L : List α} {n : Nat} (h : n < L.length) : lget L n = some L[n] := List.getElem?_eq_getElem h
/-- Where a number stands first; -1: nowhere. -/
def idxI (l : List Int) (v : Int) : Int := match l.idxOf? v with
  | some i => (i : Nat)
  | none => -1
theorem indexI_fn (l : List Int) (v : Int) (hl : l.length ≤ 4294967296) : Fn Try.prog 144 [vL uI l, vI v] [] [] (vI (idxI l v)) [] := by
  refine Fn.of tblOK [] _ _ _ _ _ Try.func144 rfl rfl (by kernel_rfl) (by kernel_rfl) rfl (drawOK tblOK) rfl ?_
  show TrQ _ _ _ _ _ _ _
  refine TrQ.loop tblOK (drawOK tblOK) [] (by kernel_rfl) (X := Nat) (fun k => [(0, vL uI l), (1, vI v), (7, vI (l.length : Nat)), (8, vI (k : Nat))]) (fun _ => []) (fun k => k ≤ l.length ∧ ∀ (i : Nat), i < k → l[i]? ≠ some v) (fun k => l.length - k) 0 ⟨Nat.zero_le _, fun i h => absurd h (Nat.not_lt_zero _)⟩ ?_ ?_
  · exact Le.sub ⟨rfl, rfl, rfl, rfl, trivial⟩ trivial
  intro k ⟨hk, hp⟩
  refine ⟨fun h => ?_, fun h => ?_⟩
  · have hk1 : k < l.length := by
      have h : decide ((k : Int) < (l.length : Int)) = true := h
      simpa using h
    refine ⟨by omega, l[k], lgAt (n := k) hk1, ?_⟩
    refine ⟨fun h2 => ?_, fun h2 => ?_⟩
    · have h2 : v = l[k] := of_decide_eq_true h2
      refine ⟨_, _, _, Le.refl _ _, rfl, (show ((k : Nat) : Int) = idxI l v from ?_), trivial, rfl⟩
      have : l.idxOf? v = some k := by
        rw [List.idxOf?_eq_some_iff]
        refine ⟨hk1, by simp [h2], fun j hj => ?_⟩
        have := hp j hj
        rw [List.getElem?_eq_getElem (by omega)] at this
        simpa using this
      rw [idxI, this]
    · have h2 : v ≠ l[k] := of_decide_eq_false h2
      refine ⟨by omega, k + 1, ⟨by omega, fun i hi => ?_⟩, by omega, Le.sub ⟨rfl, rfl, rfl, rfl, trivial⟩ trivial⟩
      rcases Nat.lt_or_ge i k with h4 | h4
      · exact hp i h4
      · have : i = k := by omega
        subst this
        rw [List.getElem?_eq_getElem hk1]
        intro e
        injection e with e
        exact h2 e.symm
  · have h : decide ((k : Int) < (l.length : Int)) = false := h
    have hk2 : k = l.length := by simp at h; omega
    refine ⟨_, _, _, Le.refl _ _, rfl, (show (-1 : Int) = idxI l v from ?_), trivial, rfl⟩
    have : l.idxOf? v = none := by
      rw [List.idxOf?_eq_none_iff]
      intro hm
      obtain ⟨i, hi, e⟩ := List.getElem_of_mem hm
      have := hp i (by omega)
      rw [List.getElem?_eq_getElem hi] at this
      exact this (by rw [e])
    rw [idxI, this]
theorem containsI_fn (l : List Int) (v : Int) (hl : l.length ≤ 4294967296) : Fn Try.prog 133 [vL uI l, vI v] [] [] (vB (l.contains v)) [] := by
  refine Fn.of tblOK [] _ _ _ _ _ Try.func133 rfl rfl (by kernel_rfl) (by kernel_rfl) rfl (drawOK tblOK) rfl ?_
  refine ⟨_, _, _, _, indexI_fn l v hl, trivial, rfl, ?_⟩
  refine ⟨_, _, _, Le.refl _ _, rfl, (show decide (0 ≤ idxI l v) = l.contains v from ?_), trivial, rfl⟩
  unfold idxI
  cases h : l.idxOf? v with
  | none =>
    rw [List.idxOf?_eq_none_iff] at h
    simp [h]
  | some i =>
    obtain ⟨hi, e, _⟩ := List.idxOf?_eq_some_iff.1 h
    have : v ∈ l := by
      have := List.getElem_mem hi
      rwa [show l[i] = v by simpa using e] at this
    simp [this]
/-! The store: Crash. -/
abbrev SMap := List (El uI × El uX)
/-- A sector has as many bytes as it has. -/
def WfX (x : El uX) : Prop := List.length (α := UInt8) x = 16
theorem WfX.wf {x : El uX} (h : WfX x) : WfU uX x := ⟨h, fun _ _ => trivial⟩
/-- What is safe behind a crash: the writes from the k-th on that are kept. -/
def crashS (keep : List Int) : Nat → List (El uW) → SMap → SMap
  | _, [], s => s
  | k, w :: l, s => crashS keep (k + 1) l (match keep.contains (k : Int) with
    | true => mput s w.1 w.2
    | false => s)
theorem crashS_snoc (keep : List Int) (w : El uW) : ∀ (l : List (El uW)) (k : Nat) (s : SMap), crashS keep k (l ++ [w]) s = match keep.contains ((k + l.length : Nat) : Int) with
    | true => mput (crashS keep k l s) w.1 w.2
    | false => crashS keep k l s
  | [], k, s => rfl
  | v :: l, k, s => by
    rw [List.cons_append, crashS, crashS_snoc keep w l (k + 1)]
    rw [show k + 1 + l.length = k + (v :: l).length by simp; omega]
    rfl
def StM.crash (m : StM) (keep : List Int) : StM := let s := crashS keep 0 m.loose m.safe; { m with safe := s, seen := s, loose := [] }
theorem kept_fn (keep : List Int) (k : Int) (hl : keep.length ≤ 4294967296) : Fn Try.prog 132 [vI k, vP 1001] [(1001, .cells [.d (.lst uI keep)])] [] (vB (keep.contains k)) [(1001, .cells [.d (.lst uI keep)])] := by
  refine Fn.of tblOK [] _ _ _ _ _ Try.func132 rfl rfl (by kernel_rfl) (by kernel_rfl) rfl (drawOK tblOK) rfl ?_
  refine ⟨_, _, _, _, containsI_fn keep k hl, trivial, rfl, ?_⟩
  exact ⟨_, _, _, Le.refl _ _, rfl, rfl, ⟨rfl, trivial⟩, rfl⟩
@[reducible] def crK (m : StM) (keep : List Int) (k : Nat) : KL := [(0, vP 1001), (4, .c (.one (.clo 132 [.p 3 0]))), (11, vOwn 1004), (12, vI (m.loose.length : Nat)), (13, vI (k : Nat))]
@[reducible] def crB (m : StM) (keep : List Int) (s : SMap) : BL := stB 1001 1002 1003 1004 { m with safe := s } ++ [(3, .cells [.d (.lst uI keep)])]
theorem scrashB_fn (m : StM) (keep : List Int) (hk : keep.length ≤ 4294967296) (hl : m.loose.length ≤ 4294967296) (hw : ∀ w, w ∈ m.loose → WfX w.2) :
    Fn Try.prog 103 [vP 1001, vL uI keep] (stB 1001 1002 1003 1004 m) [2001, 2002] vU (stB 1001 1002 2001 2002 (m.crash keep)) := by
  refine Fn.of tblOK [] _ _ _ _ _ Try.func103 rfl rfl (by kernel_rfl) (by kernel_rfl) rfl (drawOK tblOK) rfl ?_
  refine ⟨rfl, ?_⟩
  show TrQ _ _ _ _ _ _ _
  refine TrQ.loop tblOK (drawOK tblOK) [] (by kernel_rfl) (X := Nat) (crK m keep) (fun k => crB m keep (crashS keep 0 (m.loose.take k) m.safe)) (fun k => k ≤ m.loose.length) (fun k => m.loose.length - k) 0 (Nat.zero_le _) ?_ ?_
  · exact Le.sub ⟨rfl, rfl, rfl, rfl, rfl, trivial⟩ ⟨rfl, rfl, rfl, rfl, rfl, trivial⟩
  intro k hk1
  refine ⟨fun h => ?_, fun h => ?_⟩
  · have hk2 : k < m.loose.length := by
      have h : decide ((k : Int) < (m.loose.length : Int)) = true := h
      simpa using h
    have hwf := hw _ (List.getElem_mem hk2)
    have hsn : crashS keep 0 (m.loose.take (k + 1)) m.safe = match keep.contains (k : Int) with
        | true => mput (crashS keep 0 (m.loose.take k) m.safe) (m.loose[k]).1 (m.loose[k]).2
        | false => crashS keep 0 (m.loose.take k) m.safe := by
      rw [List.take_succ_eq_append_getElem hk2, crashS_snoc, List.length_take, Nat.min_eq_left (by omega), Nat.zero_add]
    refine ⟨⟨by omega, by show (k : Int) < (m.loose.length : Nat); omega⟩, ?_⟩
    refine ⟨m.loose[k], lgAt (n := k) hk2, ?_⟩
    refine ⟨rfl, ?_⟩
    refine ⟨_, _, _, _, Fn.ren [(1001, 3)] (kept_fn keep (k : Nat) hk), ⟨rfl, trivial⟩, rfl, ?_⟩
    refine ⟨fun h2 => ?_, fun h2 => ?_⟩
    · rw [h2] at hsn
      refine ⟨(m.loose[k]).2, ⟨hwf.wf, rfl⟩, ?_⟩
      refine ⟨rfl, ?_⟩
      refine ⟨by omega, k + 1, by omega, by omega, Le.sub ⟨rfl, rfl, rfl, rfl, rfl, trivial⟩ ⟨rfl, ?_, rfl, rfl, rfl, trivial⟩⟩
      rw [hsn]
      rfl
    · rw [h2] at hsn
      refine ⟨by omega, k + 1, by omega, by omega, Le.sub ⟨rfl, rfl, rfl, rfl, rfl, trivial⟩ ⟨rfl, ?_, rfl, rfl, rfl, trivial⟩⟩
      rw [hsn]
      rfl
  · have h : decide ((k : Int) < (m.loose.length : Int)) = false := h
    have hk2 : k = m.loose.length := by simp at h; omega
    subst hk2
    rw [List.take_length]
    refine ⟨_, _, _, _, Fn.ren [(1001, 1002)] (mapsCloneX_fn (crashS keep 0 m.loose m.safe)), ⟨rfl, trivial⟩, rfl, ?_⟩
    exact ⟨_, _, _, Le.nilc 1001 4 2002 198 uW rfl rfl rfl, rfl, trivial, ⟨rfl, rfl, rfl, rfl, trivial⟩, rfl⟩
theorem scrash_fn (m : StM) (keep : List Int) (hk : keep.length ≤ 4294967296) (hl : m.loose.length ≤ 4294967296) (hw : ∀ w, w ∈ m.loose → WfX w.2) :
    Fn Try.prog 103 [vP 1001, vL uI keep] [(1001, .obj (stO m))] [] vU [(1001, .obj (stO (m.crash keep)))] :=
  stCloseR (Bi := []) (Bo := []) [(2001, 1003), (2002, 1004)] (scrashB_fn m keep hk hl hw) ⟨rfl, rfl, rfl, rfl⟩ rfl rfl
/-! maps.DeleteFunc; the store: Resize. -/
abbrev EnI (vu : U) := Nat × (El uI × El vu)
def kI {vu : U} (p : EnI vu) : Int := p.2.1
theorem eqKey_int (a b : Int) : (eqKey uI (a : El uI) (b : El uI) = true) ↔ a = b := by
  show eqI a b = true ↔ a = b
  unfold eqI
  exact decide_eq_true_iff
/-- The entries that are left behind those of 'seen': whoever was seen and is to go is gone. -/
def gone {vu : U} (n : Int) (seen : List Nat) (l : List (EnI vu)) : List (EnI vu) := l.filter fun p => !(seen.contains p.1 && decide (n ≤ kI p))
theorem gdel_filter {vu : U} : ∀ {l : List (EnI vu)} {p : EnI vu}, p ∈ l → (l.map (·.1)).Nodup → (l.map kI).Nodup → gdel l p.2.1 = l.filter fun q => !decide (q.1 = p.1)
  | [], _, h, _, _ => by cases h
  | q :: l, p, h, h1, h2 => by
    rw [List.map_cons, List.nodup_cons] at h1 h2
    unfold gdel
    rcases List.mem_cons.1 h with rfl | h
    · rw [List.eraseP_cons_of_pos (p := fun q : EnI vu => eqKey uI p.2.1 q.2.1) ((eqKey_int _ _).2 rfl), List.filter_cons_of_neg (by simp)]
      refine (List.filter_eq_self.2 fun q hq => ?_).symm
      have : q.1 ≠ p.1 := fun e => h1.1 (by rw [← e]; exact List.mem_map_of_mem hq)
      simp [this]
    · have hne : ¬ eqKey uI p.2.1 q.2.1 = true := fun e => by
        have e : kI p = kI q := (eqKey_int _ _).1 e
        exact h2.1 (by rw [← e]; exact List.mem_map_of_mem h)
      have hne2 : q.1 ≠ p.1 := fun e => h1.1 (by rw [e]; exact List.mem_map_of_mem h)
      have := gdel_filter h h1.2 h2.2
      unfold gdel at this
      rw [List.eraseP_cons_of_neg (p := fun q : EnI vu => eqKey uI p.2.1 q.2.1) hne, this, List.filter_cons_of_pos (by simp [hne2])]
theorem nodup_key {α β : Type} {f : α → β} : ∀ {l : List α}, (l.map f).Nodup → ∀ {p q : α}, p ∈ l → q ∈ l → f p = f q → p = q
  | [], _, _, _, h, _, _ => by cases h
  | a :: l, h, p, q, hp, hq, e => by
    rw [List.map_cons, List.nodup_cons] at h
    rcases List.mem_cons.1 hp with hp | hp <;> rcases List.mem_cons.1 hq with hq | hq
    · rw [hp, hq]
    · exact absurd (by rw [← hp, e]; exact List.mem_map_of_mem hq) h.1
    · exact absurd (by rw [← hq, ← e]; exact List.mem_map_of_mem hp) h.1
    · exact nodup_key h.2 hp hq e
theorem gone_step {vu : U} {n : Int} {seen : List Nat} {l : List (EnI vu)} {p : EnI vu} (hp : p ∈ gone n seen l) (h1 : (l.map (·.1)).Nodup) (h2 : (l.map kI).Nodup) (hn : p.1 ∉ seen) :
    (match decide (n ≤ kI p) with | true => gdel (gone n seen l) p.2.1 | false => gone n seen l) = gone n (seen ++ [p.1]) l := by
  have hpl : p ∈ l := (List.mem_filter.1 hp).1
  cases hd : decide (n ≤ kI p) with
  | true =>
    simp only
    rw [gdel_filter hp (h1.sublist (List.filter_sublist.map _)) (h2.sublist (List.filter_sublist.map _))]
    unfold gone
    rw [List.filter_filter]
    refine List.filter_congr fun q hq => ?_
    by_cases e : q.1 = p.1
    · have := nodup_key h1 hq hpl e
      subst this
      simp [hd]
    · simp [e]
  | false =>
    simp only
    unfold gone
    refine List.filter_congr fun q hq => ?_
    by_cases e : q.1 = p.1
    · have := nodup_key h1 hq hpl e
      subst this
      simp [hd]
    · simp [e]
theorem gone_all {vu : U} {n : Int} {seen : List Nat} {l : List (EnI vu)} (h : ∀ p ∈ gone n seen l, p.1 ∈ seen) : gone n seen l = l.filter fun p => decide (kI p < n) := by
  unfold gone at h ⊢
  refine List.filter_congr fun p hp => ?_
  by_cases hs : p.1 ∈ seen
  · rw [Bool.eq_iff_iff]; simp [hs]
  · exact absurd (h p (List.mem_filter.2 ⟨hp, by simp [hs]⟩)) hs
def unseen {vu : U} (seen : List Nat) (l : List (EnI vu)) : List (EnI vu) := l.filter fun p => !seen.contains p.1
theorem unseen_lt {vu : U} {seen : List Nat} {l : List (EnI vu)} {p : EnI vu} (hp : p ∈ l) (hn : p.1 ∉ seen) : (unseen (seen ++ [p.1]) l).length < (unseen seen l).length := by
  have e : unseen (seen ++ [p.1]) l = (unseen seen l).filter fun q => !decide (q.1 = p.1) := by
    unfold unseen
    rw [List.filter_filter]
    refine List.filter_congr fun q _ => ?_
    by_cases e : q.1 = p.1 <;> simp [e]
  rw [e]
  have hm : p ∈ unseen seen l := List.mem_filter.2 ⟨hp, by simp [hn]⟩
  exact List.length_filter_lt_length_iff_exists.2 ⟨p, hm, by simp⟩
theorem resize1_fn (n k : Int) (y : El uX) : Fn Try.prog 135 [vI k, .c (.agg (listU uX y 0 16)), vP 1001] [(1001, .cells [.d (.int .i64 n)])] [] (vB (decide (n ≤ k))) [(1001, .cells [.d (.int .i64 n)])] := by
  refine Fn.of tblOK [] _ _ _ _ _ Try.func135 rfl rfl (by kernel_rfl) (by kernel_rfl) rfl (drawOK tblOK) rfl ?_
  refine ⟨rfl, ?_⟩
  exact ⟨_, _, _, Le.refl _ _, rfl, rfl, ⟨rfl, trivial⟩, rfl⟩
@[reducible] def dfK (r : Nat) : KL := [(0, .c (.one (.mp 1001))), (1, .c (.one (.clo 135 [.p 1002 0]))), (7, vP r)]
@[reducible] def dfB (n : Int) (b clock : Nat) (seen : List Nat) (l : List (EnI uX)) : BL := [(1001, .obj (.mapG b uI uX l clock)), (7, .obj (.iterG b clock seen clock)), (1002, .cells [.d (.int .i64 n)])]
set_option maxHeartbeats 1000000 in
theorem deleteFunc_fn (n : Int) (es : SMap) (hn : (es.map fun p => (show Int from p.1)).Nodup) :
    Fn Try.prog 134 [.c (.one (.mp 1001)), .c (.one (.clo 135 [.p 1002 0]))] [(1001, .map uI uX es), (1002, .cells [.d (.int .i64 n)])] [] vU [(1001, .map uI uX (es.filter fun p => decide ((show Int from p.1) < n))), (1002, .cells [.d (.int .i64 n)])] := by
  refine Fn.of tblOK [0] _ _ _ _ _ Try.func134 rfl rfl (by kernel_rfl) (by kernel_rfl) rfl (drawOK tblOK) rfl ?_
  show TrQ _ _ _ _ _ _ _
  refine TrQ.leX (LeX.nameMap 1001 rfl) fun x => ?_
  obtain ⟨b, l, clock, hsnd, hrise, hlt⟩ := x
  refine TrQ.go tblOK (drawOK tblOK) [] (by kernel_rfl) (Le.refl _ _) ?_
  refine ⟨_, _, fun N => opOK_range (d := 7) rfl Try.underlying174 rfl rfl N, rfl, ?_⟩
  show TrQ _ _ _ _ _ _ _
  have hb : (l.map (·.1)).Nodup := hrise.imp fun h => by omega
  have hk : (l.map kI).Nodup := by
    rw [← hsnd, List.map_map] at hn
    exact hn
  refine TrQ.loop tblOK (drawOK tblOK) [1, 4] (by kernel_rfl) (X := List Nat) (fun _ => dfK 7) (fun seen => dfB n b clock seen (gone n seen l)) (fun _ => True) (fun seen => (unseen seen l).length) [] trivial ?_ ?_
  · refine Le.sub ⟨rfl, rfl, rfl, trivial⟩ ⟨?_, rfl, rfl, trivial⟩
    have : gone n [] l = l := List.filter_eq_self.2 fun p _ => by simp
    rw [this]
    rfl
  intro seen _
  show TrQ _ _ _ _ _ _ _
  refine TrQ.regionX tblOK (by kernel_rfl) ?_
  refine ⟨_, opS_next (c := 1001) (r := 7) rfl rfl rfl rfl (fun p hp => hlt _ (List.mem_map_of_mem (List.mem_filter.1 hp).1)) (Nat.le_refl _), fun v e h => ?_⟩
  rcases h with ⟨p, hp, hs, rfl, rfl⟩ | ⟨hall, rfl, rfl⟩
  · have hst := gone_step hp hb hk hs
    have hpl : p ∈ l := (List.mem_filter.1 hp).1
    refine ⟨_, _, fun N => opOK_entry (c := 1001) (r := 7) (p := p) rfl rfl rfl rfl hp N, rfl, ?_⟩
    refine ⟨rfl, ?_⟩
    refine ⟨_, _, _, _, Fn.ren [(1001, 1002)] (resize1_fn n p.2.1 p.2.2), ⟨rfl, trivial⟩, rfl, ?_⟩
    refine ⟨fun h2 => ?_, fun h2 => ?_⟩
    · have h2 : decide (n ≤ kI p) = true := h2
      rw [h2] at hst
      show TrQ _ _ _ _ _ _ _
      refine TrQ.regionX tblOK (by kernel_rfl) ?_
      refine ⟨_, OpS.of fun N => opOK_gdelete (c := 1001) (ku := uI) (vu := uX) (key := p.2.1) rfl Try.underlying174 (d := .int .i64) (by kernel_rfl) rfl rfl rfl rfl N, fun v e h => ?_⟩
      obtain ⟨rfl, rfl⟩ := h
      refine ⟨seen ++ [p.1], trivial, unseen_lt hpl hs, Le.sub ⟨rfl, rfl, rfl, trivial⟩ ⟨?_, rfl, rfl, trivial⟩⟩
      rw [← hst]
      rfl
    · have h2 : decide (n ≤ kI p) = false := h2
      rw [h2] at hst
      refine ⟨seen ++ [p.1], trivial, unseen_lt hpl hs, Le.sub ⟨rfl, rfl, rfl, trivial⟩ ⟨?_, rfl, rfl, trivial⟩⟩
      rw [← hst]
      rfl
  · refine ⟨_, _, _, Le.mapOf 1001 rfl, rfl, trivial, ⟨?_, rfl, trivial⟩, rfl⟩
    rw [gone_all hall]
    show some (Ch.map uI uX (List.map (·.2) (l.filter fun p => decide (kI p < n)))) = _
    rw [← hsnd, List.filter_map]
    rfl
/-! The store: Resize, Read. -/
def StM.resize (m : StM) (n : Int) : StM := ⟨n, m.room, m.seen.filter fun p => decide ((show Int from p.1) < n), m.seen.filter fun p => decide ((show Int from p.1) < n), []⟩
def keysI {vu : U} (es : List (El uI × El vu)) : List Int := es.map fun p => (show Int from p.1)
theorem sresize_no (m : StM) (n : Int) (h : srightN n = false) : Fn Try.prog 104 [vP 1001, vI n] [(1001, .obj (stO m))] [] (vI 1) [(1001, .obj (stO m))] := by
  refine stClose (Bi := []) (Bo := []) (nw := []) ?_ rfl rfl
  refine Fn.of tblOK [] _ _ _ _ _ Try.func104 rfl rfl (by kernel_rfl) (by kernel_rfl) rfl (drawOK tblOK) rfl ?_
  refine ⟨rfl, ?_⟩
  refine ⟨_, _, _, _, sright_spec n, trivial, rfl, ?_⟩
  rw [h]
  exact ⟨fun _ => ⟨_, _, _, Le.refl _ _, rfl, rfl, ⟨rfl, rfl, rfl, rfl, trivial⟩, rfl⟩, fun h => absurd h (by decide)⟩
theorem sresize_ok (m : StM) (n : Int) (h : srightN n = true) (hn : (keysI m.seen).Nodup) : Fn Try.prog 104 [vP 1001, vI n] [(1001, .obj (stO m))] [] (vI 0) [(1001, .obj (stO (m.resize n)))] := by
  refine stCloseR (Bi := []) (Bo := []) (nw := [2001, 2002]) (d := 2001) (e := 1003) (g := 2002) [(2001, 1002), (2002, 1004)] ?_ ⟨rfl, rfl, rfl, rfl⟩ rfl rfl
  refine Fn.of tblOK [] _ _ _ _ _ Try.func104 rfl rfl (by kernel_rfl) (by kernel_rfl) rfl (drawOK tblOK) rfl ?_
  refine ⟨rfl, ?_⟩
  refine ⟨_, _, _, _, sright_spec n, trivial, rfl, ?_⟩
  rw [h]
  refine ⟨fun h => absurd h (by decide), fun _ => ?_⟩
  refine ⟨_, _, _, _, Fn.ren [(1001, 1003), (1002, 3)] (deleteFunc_fn n m.seen hn), ⟨rfl, rfl, trivial⟩, rfl, ?_⟩
  refine ⟨_, _, _, _, sflushB_fn ⟨n, m.room, m.safe, m.seen.filter fun p => decide ((show Int from p.1) < n), m.loose⟩, ⟨rfl, rfl, rfl, rfl, trivial⟩, rfl, ?_⟩
  exact ⟨_, _, _, Le.refl _ _, rfl, rfl, ⟨rfl, rfl, rfl, rfl, trivial⟩, rfl⟩
/-- What a sector reads as; sectors. -/
def secAt (s : SMap) (a : Int) : El uX := (mget s (a : El uI)).getD (dflt uX)
def secB (s : SMap) (a : Int) : List UInt8 := secAt s a
def readB (s : SMap) (a : Int) (k : Nat) : List UInt8 := (List.range k).flatMap fun i => secB s (a + (i : Nat))
def WfS (s : SMap) : Prop := ∀ p ∈ s, WfX p.2
theorem mget_mem {ku vu : U} {k : El ku} {x : El vu} : ∀ {l : List (El ku × El vu)}, mget l k = some x → ∃ p ∈ l, p.2 = x
  | [], h => by cases h
  | p :: l, h => by
    unfold mget at h
    split at h
    · injection h with h
      exact ⟨p, List.mem_cons_self .., h⟩
    · obtain ⟨q, hq, e⟩ := mget_mem h
      exact ⟨q, List.mem_cons_of_mem _ hq, e⟩
theorem secAt_wf {s : SMap} (h : WfS s) (a : Int) : WfX (secAt s a) := by
  unfold secAt
  cases e : mget s (a : El uI) with
  | none => exact List.length_replicate
  | some x =>
    obtain ⟨p, hp, e⟩ := mget_mem e
    rw [← e]
    exact h p hp
theorem readB_snoc (s : SMap) (a : Int) (k : Nat) : readB s a (k + 1) = readB s a k ++ secB s (a + (k : Nat)) := by
  unfold readB
  rw [List.range_succ, List.flatMap_append]
  simp
theorem readB_length {s : SMap} (h : WfS s) (a : Int) : ∀ k, (readB s a k).length = 16 * k
  | 0 => rfl
  | k + 1 => by
    have e : (secB s (a + (k : Nat))).length = 16 := secAt_wf h _
    rw [readB_snoc, List.length_append, readB_length h a k]
    omega
@[reducible] def vNilB : SC := .one (.d (.lst .u8 []))
@[reducible] def rdK (at_ long : Int) (k r : Nat) : KL := [(0, vP 1001), (1, vI at_), (2, vI long), (8, vOwn r), (20, vI long), (21, vI (k : Nat))]
@[reducible] def rdB (m : StM) (r : Nat) (x : List UInt8) : BL := stB 1001 1002 1003 1004 m ++ [(r, .row 5 .u8 x)]
theorem sread_arg (m : StM) (at_ long : Int) (h : long < 0) : Fn Try.prog 53 [vP 1001, vI at_, vI long] [(1001, .obj (stO m))] [] (.tup [vNilB, vErr 1]) [(1001, .obj (stO m))] := by
  refine stClose (Bi := []) (Bo := []) (nw := []) ?_ rfl rfl
  refine Fn.of tblOK [] _ _ _ _ _ Try.func53 rfl rfl (by kernel_rfl) (by kernel_rfl) rfl (drawOK tblOK) rfl ?_
  refine ⟨fun _ => ?_, fun h1 => ?_⟩
  · exact ⟨_, _, _, Le.refl _ _, rfl, ⟨rfl, rfl, trivial⟩, ⟨rfl, rfl, rfl, rfl, trivial⟩, rfl⟩
  · exact absurd h (of_decide_eq_false h1)
theorem sread_end (m : StM) (at_ long : Int) (h : 0 ≤ long) (hi : m.insideB at_ long = false) (h1 : 0 ≤ m.n) (h2 : m.n ≤ 4096) : Fn Try.prog 53 [vP 1001, vI at_, vI long] [(1001, .obj (stO m))] [] (.tup [vNilB, vErr 31]) [(1001, .obj (stO m))] := by
  refine stClose (Bi := []) (Bo := []) (nw := []) ?_ rfl rfl
  refine Fn.of tblOK [] _ _ _ _ _ Try.func53 rfl rfl (by kernel_rfl) (by kernel_rfl) rfl (drawOK tblOK) rfl ?_
  refine ⟨fun h1 => ?_, fun _ => ?_⟩
  · have h1 : long < 0 := of_decide_eq_true h1
    omega
  refine ⟨_, _, _, _, sinside_fn m at_ long h h1 h2, ⟨rfl, rfl, rfl, rfl, trivial⟩, rfl, ?_⟩
  rw [hi]
  refine ⟨fun _ => ?_, fun h => absurd h (by decide)⟩
  exact ⟨_, _, _, Le.refl _ _, rfl, ⟨rfl, rfl, trivial⟩, ⟨rfl, rfl, rfl, rfl, trivial⟩, rfl⟩
theorem sread_ok (m : StM) (at_ long : Int) (h : 0 ≤ long) (hi : m.insideB at_ long = true) (h1 : 0 ≤ m.n) (h2 : m.n ≤ 4096) (hw : WfS m.seen) : Fn Try.prog 53 [vP 1001, vI at_, vI long] [(1001, .obj (stO m))] [] (.tup [.one (.d (.lst .u8 (readB m.seen at_ long.toNat))), vErr 0]) [(1001, .obj (stO m))] := by
  refine stClose (Bi := []) (Bo := []) (nw := []) ?_ rfl rfl
  refine Fn.of tblOK [] _ _ _ _ _ Try.func53 rfl rfl (by kernel_rfl) (by kernel_rfl) rfl (drawOK tblOK) rfl ?_
  refine ⟨fun h1 => ?_, fun _ => ?_⟩
  · have h1 : long < 0 := of_decide_eq_true h1
    omega
  refine ⟨_, _, _, _, sinside_fn m at_ long h h1 h2, ⟨rfl, rfl, rfl, rfl, trivial⟩, rfl, ?_⟩
  rw [hi]
  refine ⟨fun h => absurd h (by decide), fun _ => ?_⟩
  simp only [StM.insideB, Bool.and_eq_true, decide_eq_true_eq] at hi
  obtain ⟨⟨i1, i2⟩, i3⟩ := hi
  show TrQ _ _ _ _ _ _ _
  refine TrQ.loop tblOK (drawOK tblOK) [] (by kernel_rfl) (X := Nat) (fun k => rdK at_ long k 2003) (fun k => rdB m 2003 (readB m.seen at_ k)) (fun k => (k : Int) ≤ long) (fun k => long.toNat - k) 0 h ?_ ?_
  · exact Le.trans (Le.nil 8 2003 5 .u8 rfl rfl) (Le.sub ⟨rfl, rfl, rfl, rfl, rfl, rfl, trivial⟩ ⟨rfl, rfl, rfl, rfl, rfl, trivial⟩)
  intro k hk
  refine ⟨fun hc => ?_, fun hc => ?_⟩
  · have hk1 : (k : Int) < long := of_decide_eq_true hc
    have hwf := secAt_wf hw (at_ + (k : Nat))
    have hlen := readB_length hw at_ k
    refine ⟨by omega, ?_⟩
    refine ⟨rfl, ?_⟩
    refine ⟨secAt m.seen (at_ + (k : Nat)), ⟨hwf.wf, rfl⟩, ?_⟩
    have e1 : (readB m.seen at_ k).length + (secB m.seen (at_ + (k : Nat))).length ≤ 4294967296 := by
      have : (secB m.seen (at_ + (k : Nat))).length = 16 := hwf
      omega
    refine ⟨e1, rfl, ?_⟩
    refine ⟨by omega, k + 1, by omega, by omega, Le.trans (Le.sub (K' := rdK at_ long (k + 1) 34) (B' := rdB m 34 (readB m.seen at_ (k + 1))) ⟨rfl, rfl, rfl, rfl, rfl, rfl, trivial⟩ ⟨rfl, rfl, rfl, rfl, ?_, trivial⟩) (Le.ren 34 2003 rfl)⟩
    rw [readB_snoc]
    rfl
  · have hk1 : k = long.toNat := by
      have : ¬ (k : Int) < long := of_decide_eq_false hc
      omega
    subst hk1
    exact ⟨_, _, _, Le.frz 2003 rfl, rfl, ⟨rfl, rfl, trivial⟩, ⟨rfl, rfl, rfl, rfl, trivial⟩, rfl⟩
/-! The store: Write. -/
/-- The k-th sector's bytes. -/
def chunkL (b : List UInt8) (k : Nat) : List UInt8 := List.take 16 ((b.take ((((k : Nat) : Int) + 1) * 16).toNat).drop (((k : Nat) : Int) * 16).toNat)
def chunk (b : List UInt8) (k : Nat) : El uX := chunkL b k
theorem chunk_wf {b : List UInt8} {k : Nat} (h : 16 * (k + 1) ≤ b.length) : WfX (chunk b k) := by
  show (List.take 16 ((b.take _).drop _)).length = 16
  rw [List.length_take, List.length_drop, List.length_take]
  omega
theorem chunkL_eq (b : List UInt8) (k : Nat) : chunkL b k = (b.drop (16 * k)).take 16 := by
  unfold chunkL
  rw [show ((((k : Nat) : Int) + 1) * 16).toNat = 16 * k + 16 by omega, show (((k : Nat) : Int) * 16).toNat = 16 * k by omega, List.drop_take, List.take_take]
  congr 1
  omega
@[reducible] def mkW (a : Int) (x : El uX) : El uW := (a, x)
/-- What is seen, and loose, behind k sectors of a write. -/
def wrS (at_ : Int) (b : List UInt8) (s : SMap) : Nat → SMap
  | 0 => s
  | k + 1 => mput (wrS at_ b s k) (at_ + (k : Nat) : Int) (chunk b k)
def wrL (at_ : Int) (b : List UInt8) (l : List (El uW)) : Nat → List (El uW)
  | 0 => l
  | k + 1 => wrL at_ b l k ++ [mkW (at_ + (k : Nat)) (chunk b k)]
theorem wrL_length (at_ : Int) (b : List UInt8) (l : List (El uW)) : ∀ k, (wrL at_ b l k).length = l.length + k
  | 0 => rfl
  | k + 1 => by rw [wrL, List.length_append, wrL_length]; simp; omega
/-- How many of k sectors were never written. -/
def freshN (s : SMap) (at_ : Int) : Nat → Nat
  | 0 => 0
  | k + 1 => match (mget s (at_ + (k : Nat) : Int)).isSome with
    | true => freshN s at_ k
    | false => freshN s at_ k + 1
theorem freshN_le (s : SMap) (at_ : Int) : ∀ k, freshN s at_ k ≤ k
  | 0 => Nat.le_refl _
  | k + 1 => by
    have := freshN_le s at_ k
    unfold freshN
    split <;> omega
def StM.fullB (m : StM) (at_ : Int) (k : Nat) : Bool := decide (m.room < (m.seen.length + freshN m.seen at_ k : Nat)) && decide (0 < freshN m.seen at_ k)
def StM.wrote (m : StM) (at_ : Int) (b : List UInt8) : StM := { m with seen := wrS at_ b m.seen (b.length / 16), loose := wrL at_ b m.loose (b.length / 16) }
def badLen (b : List UInt8) : Bool := decide (b.length = 0) || !decide (b.length % 16 = 0)
@[reducible] def wr1K (m : StM) (at_ : Int) (b : List UInt8) (k : Nat) : KL := [(0, vP 1001), (1, vI at_), (2, vL .u8 b), (7, vI (b.length / 16 : Nat)), (8, vI (m.seen.length + freshN m.seen at_ k : Nat)), (35, vI (b.length / 16 : Nat)), (36, vI (k : Nat))]
@[reducible] def wr2K (m : StM) (at_ : Int) (b : List UInt8) (k : Nat) : KL := [(0, vP 1001), (1, vI at_), (2, vL .u8 b), (7, vI (b.length / 16 : Nat)), (67, vI (b.length / 16 : Nat)), (68, vI (k : Nat))]
@[reducible] def wr2B (m : StM) (at_ : Int) (b : List UInt8) (k r : Nat) : BL := stB 1001 1002 1003 r { m with seen := wrS at_ b m.seen k, loose := wrL at_ b m.loose k }
theorem badLen_split (b : List UInt8) : badLen b = (decide ((b.length : Int) = 0) || !decide ((b.length : Int) % 16 = 0)) := by
  have e1 : decide (b.length = 0) = decide ((b.length : Int) = 0) := by rw [Bool.eq_iff_iff, decide_eq_true_iff, decide_eq_true_iff]; omega
  have e2 : decide (b.length % 16 = 0) = decide ((b.length : Int) % 16 = 0) := by rw [Bool.eq_iff_iff, decide_eq_true_iff, decide_eq_true_iff]; omega
  rw [badLen, e1, e2]
theorem len_div {b : List UInt8} (hl : b.length ≤ 4294967296) : (0 ≤ (b.length : Int) ∧ (0 : Int) < 16) ∧ (-9223372036854775808 ≤ (b.length : Int) / 16 ∧ (b.length : Int) / 16 ≤ 9223372036854775807) ∧ (-9223372036854775808 ≤ (b.length : Int) % 16 ∧ (b.length : Int) % 16 ≤ 9223372036854775807) := by omega
theorem swrite_arg (m : StM) (at_ : Int) (b : List UInt8) (hl : b.length ≤ 4294967296) (h : badLen b = true) : Fn Try.prog 85 [vP 1001, vI at_, vL .u8 b] [(1001, .obj (stO m))] [] (vI 1) [(1001, .obj (stO m))] := by
  refine stClose (Bi := []) (Bo := []) (nw := []) ?_ rfl rfl
  rw [badLen_split] at h
  obtain ⟨a1, a2, a3⟩ := len_div hl
  refine Fn.of tblOK [] _ _ _ _ _ Try.func85 rfl rfl (by kernel_rfl) (by kernel_rfl) rfl (drawOK tblOK) rfl ?_
  refine ⟨a1, a2, ?_⟩
  refine ⟨fun _ => ?_, fun h1 => ?_⟩
  · exact ⟨_, _, _, Le.refl _ _, rfl, rfl, ⟨rfl, rfl, rfl, rfl, trivial⟩, rfl⟩
  refine ⟨a1, a3, ?_⟩
  refine ⟨fun _ => ?_, fun h2 => ?_⟩
  · exact ⟨_, _, _, Le.refl _ _, rfl, rfl, ⟨rfl, rfl, rfl, rfl, trivial⟩, rfl⟩
  · have h1 : decide ((b.length : Int) = 0) = false := h1
    have h2 : (!decide ((b.length : Int) % 16 = 0)) = false := h2
    rw [h1, h2] at h
    cases h
theorem swrite_end (m : StM) (at_ : Int) (b : List UInt8) (hl : b.length ≤ 4294967296) (h : badLen b = false) (hi : m.insideB at_ (b.length / 16 : Nat) = false) (h1 : 0 ≤ m.n) (h2 : m.n ≤ 4096) : Fn Try.prog 85 [vP 1001, vI at_, vL .u8 b] [(1001, .obj (stO m))] [] (vI 31) [(1001, .obj (stO m))] := by
  refine stClose (Bi := []) (Bo := []) (nw := []) ?_ rfl rfl
  rw [badLen_split, Bool.or_eq_false_iff] at h
  obtain ⟨a1, a2, a3⟩ := len_div hl
  refine Fn.of tblOK [] _ _ _ _ _ Try.func85 rfl rfl (by kernel_rfl) (by kernel_rfl) rfl (drawOK tblOK) rfl ?_
  refine ⟨a1, a2, ?_⟩
  refine ⟨fun h3 => absurd (h.1.symm.trans h3) (by decide), fun _ => ?_⟩
  refine ⟨a1, a3, ?_⟩
  refine ⟨fun h3 => absurd (h.2.symm.trans h3) (by decide), fun _ => ?_⟩
  refine ⟨_, _, _, _, sinside_fn m at_ (b.length / 16 : Nat) (by omega) h1 h2, ⟨rfl, rfl, rfl, rfl, trivial⟩, rfl, ?_⟩
  rw [hi]
  refine ⟨fun _ => ?_, fun h => absurd h (by decide)⟩
  exact ⟨_, _, _, Le.refl _ _, rfl, rfl, ⟨rfl, rfl, rfl, rfl, trivial⟩, rfl⟩
/-- A write that may be, up to the count of what was never written; Q: what is shown from there on. -/
theorem swrite_go (m : StM) (at_ : Int) (b : List UInt8) (hl : b.length ≤ 4294967296) (h : badLen b = false) (hi : m.insideB at_ (b.length / 16 : Nat) = true) (h1 : 0 ≤ m.n) (h2 : m.n ≤ 4096) (h3 : m.seen.length ≤ 4096) (hw : WfS m.seen) (hlo : m.loose.length + b.length ≤ 4294967296) :
    Fn Try.prog 85 [vP 1001, vI at_, vL .u8 b] (stB 1001 1002 1003 1004 m) [2004] (vI (match m.fullB at_ (b.length / 16) with | true => 30 | false => 0)) (match m.fullB at_ (b.length / 16) with | true => stB 1001 1002 1003 1004 m | false => stB 1001 1002 1003 2004 (m.wrote at_ b)) := by
  rw [badLen_split, Bool.or_eq_false_iff] at h
  obtain ⟨a1, a2, a3⟩ := len_div hl
  refine Fn.of tblOK [] _ _ _ _ _ Try.func85 rfl rfl (by kernel_rfl) (by kernel_rfl) rfl (drawOK tblOK) rfl ?_
  refine ⟨a1, a2, ?_⟩
  refine ⟨fun h3 => absurd (h.1.symm.trans h3) (by decide), fun _ => ?_⟩
  refine ⟨a1, a3, ?_⟩
  refine ⟨fun h3 => absurd (h.2.symm.trans h3) (by decide), fun _ => ?_⟩
  refine ⟨_, _, _, _, sinside_fn m at_ (b.length / 16 : Nat) (by omega) h1 h2, ⟨rfl, rfl, rfl, rfl, trivial⟩, rfl, ?_⟩
  rw [hi]
  refine ⟨fun h => absurd h (by decide), fun _ => ?_⟩
  simp only [StM.insideB, Bool.and_eq_true, decide_eq_true_eq] at hi
  obtain ⟨⟨i1, i2⟩, i3⟩ := hi
  refine ⟨_, _, _, _, sused_fn m, ⟨rfl, rfl, rfl, rfl, trivial⟩, rfl, ?_⟩
  show TrQ _ _ _ _ _ _ _
  have e0 : ((b.length : Int) / 16) = ((b.length / 16 : Nat) : Int) := by omega
  have hfl := freshN_le m.seen at_
  refine TrQ.loop tblOK (drawOK tblOK) [] (by kernel_rfl) (X := Nat) (wr1K m at_ b) (fun k => stB 1001 1002 1003 1004 m) (fun k => k ≤ b.length / 16) (fun k => b.length / 16 - k) 0 (Nat.zero_le _) ?_ ?_
  · exact Le.sub ⟨rfl, rfl, rfl, e0, rfl, e0, rfl, trivial⟩ ⟨rfl, rfl, rfl, rfl, trivial⟩
  intro k hk
  refine ⟨fun hc => ?_, fun hc => ?_⟩
  · have hk1 : (k : Int) < (b.length / 16 : Nat) := of_decide_eq_true hc
    have hfk := hfl k
    refine ⟨by omega, ?_⟩
    refine ⟨rfl, ?_⟩
    have hs : freshN m.seen at_ (k + 1) = match (mget m.seen (at_ + (k : Nat) : Int)).isSome with
        | true => freshN m.seen at_ k
        | false => freshN m.seen at_ k + 1 := rfl
    refine ⟨fun h4 => ?_, fun h4 => ?_⟩
    · have h4 : (mget m.seen (at_ + (k : Nat) : Int)).isSome = false := by
        have h4 : (!(mget m.seen (at_ + (k : Nat) : Int)).isSome) = true := h4
        simpa using h4
      rw [h4] at hs
      have hs : freshN m.seen at_ (k + 1) = freshN m.seen at_ k + 1 := hs
      refine ⟨by omega, ?_⟩
      refine ⟨by omega, k + 1, by omega, by omega, Le.sub ⟨rfl, rfl, rfl, rfl, ?_, rfl, rfl, trivial⟩ ⟨rfl, rfl, rfl, rfl, trivial⟩⟩
      show _ = _
      rw [hs]
      omega
    · have h4 : (mget m.seen (at_ + (k : Nat) : Int)).isSome = true := by
        have h4 : (!(mget m.seen (at_ + (k : Nat) : Int)).isSome) = false := h4
        simpa using h4
      rw [h4] at hs
      refine ⟨by omega, k + 1, by omega, by omega, Le.sub ⟨rfl, rfl, rfl, rfl, ?_, rfl, rfl, trivial⟩ ⟨rfl, rfl, rfl, rfl, trivial⟩⟩
      show _ = _
      rw [hs]
  · have hk1 : k = b.length / 16 := by
      have : ¬ (k : Int) < (b.length / 16 : Nat) := of_decide_eq_false hc
      omega
    subst hk1
    have hfk := hfl (b.length / 16)
    refine ⟨fun c1 => ?cA, fun c1 => ?cB⟩
    case' cA =>
      have c1 : decide (m.room < (m.seen.length + freshN m.seen at_ (b.length / 16) : Nat)) = true := c1
      refine ⟨_, _, _, _, sused_fn m, ⟨rfl, rfl, rfl, rfl, trivial⟩, rfl, ?_⟩
      refine ⟨fun c2 => ?cC, fun c2 => ?cD⟩
    case cC =>
      have c2 : decide (((m.seen.length : Nat) : Int) < (m.seen.length + freshN m.seen at_ (b.length / 16) : Nat)) = true := c2
      have hf : m.fullB at_ (b.length / 16) = true := by
        have h0 : 0 < freshN m.seen at_ (b.length / 16) := by have := of_decide_eq_true c2; omega
        rw [StM.fullB, c1, decide_eq_true h0]
        rfl
      rw [hf]
      exact ⟨_, _, _, Le.refl _ _, rfl, rfl, ⟨rfl, rfl, rfl, rfl, trivial⟩, rfl⟩
    case' cD =>
      have c2 : decide (((m.seen.length : Nat) : Int) < (m.seen.length + freshN m.seen at_ (b.length / 16) : Nat)) = false := c2
      have hf : m.fullB at_ (b.length / 16) = false := by
        have h0 : ¬ 0 < freshN m.seen at_ (b.length / 16) := by have := of_decide_eq_false c2; omega
        rw [StM.fullB, c1, decide_eq_false h0]
        rfl
      clear c1 c2
    case' cB =>
      have c1 : decide (m.room < (m.seen.length + freshN m.seen at_ (b.length / 16) : Nat)) = false := c1
      have hf : m.fullB at_ (b.length / 16) = false := by
        rw [StM.fullB, c1]
        rfl
      clear c1
    all_goals
      rw [hf]
      show TrQ _ _ _ _ _ _ _
      refine TrQ.loop tblOK (drawOK tblOK) [] (by kernel_rfl) (X := Nat) (wr2K m at_ b) (fun k => wr2B m at_ b k 2004) (fun k => k ≤ b.length / 16) (fun k => b.length / 16 - k) 0 (Nat.zero_le _) ?_ ?_
      · exact Le.trans (Le.sub (K' := wr2K m at_ b 0) (B' := wr2B m at_ b 0 1004) ⟨rfl, rfl, rfl, rfl, rfl, rfl, trivial⟩ ⟨rfl, rfl, rfl, rfl, trivial⟩) (Le.ren 1004 2004 rfl)
      intro k hk
      refine ⟨fun hc => ?_, fun hc => ?_⟩
      · have hk1 : (k : Int) < (b.length / 16 : Nat) := of_decide_eq_true hc
        have hwf : WfX (chunk b k) := chunk_wf (by omega)
        have hll := wrL_length at_ b m.loose k
        have q1 : -9223372036854775808 ≤ (k : Int) * 16 ∧ (k : Int) * 16 ≤ 9223372036854775807 := by omega
        have q2 : -9223372036854775808 ≤ (k : Int) + 1 ∧ (k : Int) + 1 ≤ 9223372036854775807 := by omega
        have q3 : -9223372036854775808 ≤ ((k : Int) + 1) * 16 ∧ ((k : Int) + 1) * 16 ≤ 9223372036854775807 := by omega
        have q4 : 0 ≤ (k : Int) * 16 ∧ (k : Int) * 16 ≤ ((k : Int) + 1) * 16 ∧ ((k : Int) + 1) * 16 ≤ (b.length : Nat) := by omega
        refine ⟨q1, q2, q3, q4, ?_⟩
        have q5 : 0 < 16 ∧ 16 ≤ ((b.take (((k : Int) + 1) * 16).toNat).drop ((k : Int) * 16).toNat).length := by
          rw [List.length_drop, List.length_take]
          omega
        refine ⟨q5, rfl, ?_⟩
        have q6 : -9223372036854775808 ≤ at_ + (k : Nat) ∧ at_ + (k : Nat) ≤ 9223372036854775807 := by omega
        refine ⟨q6, ?_⟩
        refine ⟨chunk b k, ⟨hwf.wf, rfl⟩, ?_⟩
        refine ⟨rfl, ?_⟩
        refine ⟨q6, ?_⟩
        refine ⟨rfl, mkW (at_ + (k : Nat)) (chunk b k), ⟨⟨trivial, hwf.wf⟩, rfl⟩, ?_⟩
        have q7 : (wrL at_ b m.loose k).length + [mkW (at_ + (k : Nat)) (chunk b k)].length ≤ 4294967296 := by
          rw [hll]
          simp only [List.length_cons, List.length_nil]
          omega
        refine ⟨q7, rfl, ?_⟩
        refine ⟨rfl, ?_⟩
        exact ⟨by omega, k + 1, by omega, by omega, Le.trans (Le.sub (K' := wr2K m at_ b (k + 1)) (B' := wr2B m at_ b (k + 1) 99) ⟨rfl, rfl, rfl, rfl, rfl, rfl, trivial⟩ ⟨rfl, rfl, rfl, rfl, trivial⟩) (Le.ren 99 2004 rfl)⟩
      · have hk1 : k = b.length / 16 := by
          have : ¬ (k : Int) < (b.length / 16 : Nat) := of_decide_eq_false hc
          omega
        subst hk1
        exact ⟨_, _, _, Le.refl _ _, rfl, rfl, ⟨rfl, rfl, rfl, rfl, trivial⟩, rfl⟩
/-- The write, whatever it is. -/
def StM.write (m : StM) (at_ : Int) (b : List UInt8) : StM × Int := match badLen b with
  | true => (m, 1)
  | false => match m.insideB at_ (b.length / 16 : Nat) with
    | false => (m, 31)
    | true => match m.fullB at_ (b.length / 16) with
      | true => (m, 30)
      | false => (m.wrote at_ b, 0)
theorem swrite_fn (m : StM) (at_ : Int) (b : List UInt8) (hl : b.length ≤ 1073741824) (h1 : 0 ≤ m.n) (h2 : m.n ≤ 4096) (h3 : m.seen.length ≤ 4096) (hw : WfS m.seen) (hlo : m.loose.length ≤ 1073741824) :
    Fn Try.prog 85 [vP 1001, vI at_, vL .u8 b] [(1001, .obj (stO m))] [] (vI (m.write at_ b).2) [(1001, .obj (stO (m.write at_ b).1))] := by
  unfold StM.write
  cases e1 : badLen b with
  | true => exact swrite_arg m at_ b (by omega) e1
  | false =>
    simp only
    cases e2 : m.insideB at_ (b.length / 16 : Nat) with
    | false => exact swrite_end m at_ b (by omega) e1 e2 h1 h2
    | true =>
      simp only
      have h := swrite_go m at_ b (by omega) e1 e2 h1 h2 h3 hw (by omega)
      cases e3 : m.fullB at_ (b.length / 16) with
      | true => rw [e3] at h; exact stClose (Bi := []) (Bo := []) (nw := [2004]) h rfl rfl
      | false => rw [e3] at h; exact stCloseR (Bi := []) (Bo := []) (nw := [2004]) [(2004, 1004)] h ⟨rfl, rfl, rfl, rfl⟩ rfl rfl
end Go.Proofs.Ythghcdddambaeaa
