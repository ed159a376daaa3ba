/-
  Files: the law's does.
-/
import Derived.Test.YthghcdddambaeaaFm
set_option linter.unusedVariables false
set_option linter.unusedSimpArgs false
set_option maxRecDepth 10000
namespace Go.Proofs.Ythghcdddambaeaa
open Go.RowKit Go.Proofs
theorem stO_anch {m : StM} {I F : Nat → Prop} {w : World} {p : Pl} (h : (stO m).R I F w p) : F p.blk := by
  obtain ⟨ρ, G, h1, h2, h3, h4⟩ := h
  obtain ⟨hF, _⟩ := h2 1001 _ rfl
  exact (h4 _).2 ⟨1001, _, rfl, (hF _).2 (by rw [h1])⟩
theorem poolR_has {I : Nat → Prop} {w : World} {b : Nat} : ∀ {L : SPool} {F : Nat → Prop}, poolR I w (poolS L) F → b ∈ L.map (·.1) → F b
  | [], _, _, h => by cases h
  | p :: L, F, ⟨F1, F2, q, h1, h2, h3, h4, h5⟩, h => by
    rcases List.mem_cons.1 h with h | h
    · exact (h1 b).2 (.inl (by rw [h]; have := stO_anch h4; rwa [h3] at this))
    · exact (h1 b).2 (.inr (poolR_has h5 h))
/-- A new one is none of the old ones. -/
theorem LeX.poolNew {ids : List Nat} {K : KL} {B : BL} (q : Nat) {L : SPool} {b : Nat} {m : StM} (hq : lookB B q = some (.obj (.pool (poolS ((b, m) :: L))))) : LeX ids K B (X := PLift (b ∉ L.map (·.1))) (fun _ => K) (fun _ => B) := by
  rintro N C a w ⟨hn, hd, ρ, F, hM, hS⟩
  have hP : poolR (Imm C B F w) w (poolS ((b, m) :: L)) (F q) := hM.holds q _ hq
  obtain ⟨F1, F2, p, h1, h2, h3, h4, h5⟩ := hP
  refine ⟨⟨fun hb => ?_⟩, hn, hd, ρ, F, hM, hS⟩
  have e1 := stO_anch h4
  rw [h3] at e1
  exact h2 _ e1 (poolR_has h5 hb)
@[reducible] def uO4 : U := .pr uI (.pr uI (.pr .str (.pr .str (.pr (.sl uK) uO3))))
abbrev Op4 := El uO4
@[reducible] def pKind (o : Op4) : Int := o.1
@[reducible] def pN (o : Op4) : Int := o.2.1
@[reducible] def pName (o : Op4) : List UInt8 := o.2.2.1
@[reducible] def pTo (o : Op4) : List UInt8 := o.2.2.2.1
@[reducible] def pKeeps (o : Op4) : List Kp := o.2.2.2.2.1
@[reducible] def pS (o : Op4) : Op3 := o.2.2.2.2.2
@[reducible] def op4L (o : Op4) : List S1 := [.d (.int .i64 (pKind o)), .d (.int .i64 (pN o)), .d (.str (pName o)), .d (.str (pTo o)), .d (.lst uK (pKeeps o))] ++ op3L (pS o)
@[reducible] def op4V (o : Op4) : SV := .c (.agg (op4L o))
structure DoR where
  es : FMap
  L : SPool
  x : List UInt8
  e : Int
/-- A call of a script; b: where the file that it makes is. -/
def doF (room : Int) (es : FMap) (L : SPool) (o : Op4) (b : Nat) : DoR :=
  if pKind o = 0 then (match nameOK (pName o) && (srightN (pN o) && decide (0 ≤ room)) with
    | false => ⟨es, L, [], 1⟩
    | true => match fget es (pName o) with
      | some _ => ⟨es, L, [], 42⟩
      | none => if es.length < 16 then ⟨putA es (pName o) (some b), (b, ⟨pN o, room, [], [], []⟩) :: L, [], 0⟩ else ⟨es, L, [], 41⟩)
  else if pKind o = 1 then ⟨delA es (pName o), L, [], match fget es (pName o) with | some _ => 0 | none => 40⟩
  else if pKind o = 2 then (match nameOK (pTo o) with
    | false => ⟨es, L, [], 1⟩
    | true => match fget es (pName o) with
      | none => ⟨es, L, [], 40⟩
      | some a => ⟨putA (delA es (pName o)) (pTo o) (some a), L, [], 0⟩)
  else if pKind o = 3 then ⟨es, mapP (crE (pKeeps o) es) L, [], 0⟩
  else if pKind o = 4 then (match fget es (pName o) with
    | none => ⟨es, L, [], 40⟩
    | some a => match sget L a with
      | none => ⟨es, L, [], 0⟩
      | some m => ⟨es, sset L a (m.op (pS o)).1, (m.op (pS o)).2.1, (m.op (pS o)).2.2⟩)
  else ⟨es, L, [], 0⟩
/-- How much a call has. -/
structure OpBd (o : Op4) (n : Nat) : Prop where
  b : (oB (pS o)).length ≤ n
  keep : (oKeep (pS o)).length ≤ n
  name : (pName o).length ≤ n
  to : (pTo o).length ≤ n
  keeps : (pKeeps o).length ≤ n
  kl : ∀ k ∈ pKeeps o, (kL k).length ≤ n
structure FOK (es : FMap) (L : SPool) (W : Nat) : Prop where
  nm : NamesOK es
  pl : PoolOK es L W
theorem fget_ex {es : FMap} {L : SPool} {W : Nat} (h : PoolOK es L W) {k : List UInt8} {a : Nat} (hf : fget es k = some a) : ∃ m, sget L a = some m ∧ StOK m ∧ m.loose.length ≤ W := by
  obtain ⟨a', h1, h2⟩ := h.ex _ (fget_mem hf)
  have h1 : some a = some a' := h1
  injection h1 with h1
  subst h1
  obtain ⟨m, hm⟩ := sget_of_mem h2
  exact ⟨m, hm, h.ok _ (sget_mem hm), h.few _ (sget_mem hm)⟩
/-- The files stay as they should. -/
theorem doF_ok {room : Int} {es : FMap} {L : SPool} {o : Op4} {b W : Nat} (h : FOK es L W) (hb : b ∉ L.map (·.1)) : FOK (doF room es L o b).es (doF room es L o b).L (W + (oB (pS o)).length) := by
  have h0 : FOK es L (W + (oB (pS o)).length) := ⟨h.nm, h.pl.mono (Nat.le_add_right _ _)⟩
  unfold doF
  split
  · split
    · exact h0
    · rename_i hc
      simp only [Bool.and_eq_true] at hc
      split
      · exact h0
      · split
        · rename_i hl
          exact ⟨h.nm.put hc.1 (Nat.le_trans (length_put _ _ _) hl), h0.pl.add hb (StOK.new hc.2.1) (Nat.zero_le _)⟩
        · exact h0
  split
  · exact ⟨h.nm.del _, h0.pl.del _⟩
  split
  · split
    · exact h0
    · rename_i hc
      split
      · exact h0
      · rename_i a ha
        refine ⟨(h.nm.del _).put hc ?_, h0.pl.ren ha⟩
        have := (del_pA ha h.pl.nd).2
        have h1 := length_put (pTo o) (some a) (delA es (pName o))
        have := h.nm.few
        omega
  split
  · exact ⟨h.nm, h0.pl.map (fun a m => crE_ok _ _ a m) (fun a m => crE_few _ _ _ a m)⟩
  split
  · split
    · exact h0
    · rename_i a ha
      obtain ⟨m, hm, h1, h2⟩ := fget_ex h.pl ha
      rw [hm]
      exact ⟨h.nm, h.pl.set a (h1.op _) (op_few _ _ _ h2) (Nat.le_add_right _ _)⟩
  · exact h0
@[reducible] def dkK (o : Op4) (k r : Nat) : KL := [(0, vP 1001), (3, vP 3), (8, vOwn r), (44, vL uK (pKeeps o)), (45, vI ((pKeeps o).length : Nat)), (46, vI (k : Nat))]
@[reducible] def dkB (room : Int) (es : FMap) (L : SPool) (o : Op4) (k r : Nat) : BL := flS 1001 1002 1003 room es L ++ [(3, .cells (op4L o)), (r, .row 149 uK ((pKeeps o).take k))]
@[reducible] def dkE (room : Int) (es : FMap) (L : SPool) (o : Op4) : BL := flS 1001 1002 1003 room es L ++ [(3, .cells (op4L o)), (2003, .row 149 uK (pKeeps o))]
set_option maxHeartbeats 1000000 in
theorem does_fn (room : Int) (es : FMap) (L : SPool) (o : Op4) (W : Nat) (h : FOK es L W) (hW : W ≤ 1073741824) (hO : OpBd o 1073741824) :
    FnX Try.prog 43 [vP 1001, op4V o] (flS 1001 1002 1003 room es L) [] (X := { b : Nat // b ∉ L.map (·.1) }) (fun g => .tup [.one (.d (.str (doF room es L o g.1).x)), vErr (doF room es L o g.1).e]) (fun g => flS 1001 1002 1003 room (doF room es L o g.1).es (doF room es L o g.1).L) := by
  have hex : ∃ b : Nat, b ∉ L.map (·.1) := by
    refine ⟨(L.map (·.1)).foldr max 0 + 1, fun hm => ?_⟩
    have : ∀ (l : List Nat) x, x ∈ l → x ≤ l.foldr max 0 := by
      intro l
      induction l with
      | nil => intro x hx; cases hx
      | cons y l ih =>
        intro x hx
        rw [List.foldr_cons]
        rcases List.mem_cons.1 hx with rfl | hx
        · exact Nat.le_max_left _ _
        · exact Nat.le_trans (ih x hx) (Nat.le_max_right _ _)
    have := this _ _ hm
    omega
  obtain ⟨b0, hb0⟩ := hex
  let g0 : { b : Nat // b ∉ L.map (·.1) } := ⟨b0, hb0⟩
  refine FnX.of tblOK [3,4,16] _ _ _ _ _ Try.func43 rfl rfl (by kernel_rfl) (by kernel_rfl) rfl (drawOK tblOK) rfl ?_
  refine ⟨rfl, ?_⟩
  refine ⟨fun c0 => ?_, fun c0 => ?_⟩
  · have c0 : pKind o = 0 := of_decide_eq_true c0
    have hE : ∀ b, doF room es L o b = _ := fun b => if_pos c0
    show TrQ _ _ _ _ _ _ _
    cases hc : nameOK (pName o) && (srightN (pN o) && decide (0 ≤ room)) with
    | false =>
      rw [hc] at hE
      refine TrQ.go tblOK (drawOK tblOK) [] (by kernel_rfl) (Le.refl _ _) ?_
      refine ⟨_, _, _, _, fcreate_arg room es (pName o) (pN o) (by have := hO.name; omega) hc, ⟨rfl, rfl, trivial⟩, rfl, ?_⟩
      show TrQ _ _ _ _ _ _ _
      refine TrQ.go tblOK (drawOK tblOK) [] (by kernel_rfl) (Le.refl _ _) ?_
      exact ⟨g0, _, _, _, Le.refl _ _, rfl, ⟨(congrArg DoR.x (hE b0)).symm, (congrArg DoR.e (hE b0)).symm, trivial⟩, ⟨rfl, congrArg (fun r => some (Ch.map .str .adr (DoR.es r))) (hE b0).symm, congrArg (fun r => some (Ch.obj (.pool (poolS (DoR.L r))))) (hE b0).symm, trivial⟩, rfl⟩
    | true =>
      rw [hc] at hE
      have hc' := hc
      rw [Bool.and_eq_true] at hc'
      cases hg : fget es (pName o) with
      | some a =>
        rw [hg] at hE
        refine TrQ.go tblOK (drawOK tblOK) [] (by kernel_rfl) (Le.refl _ _) ?_
        refine ⟨_, _, _, _, fcreate_there room es (pName o) (pN o) a (by have := hO.name; omega) hc'.1 hc'.2 hg, ⟨rfl, rfl, trivial⟩, rfl, ?_⟩
        show TrQ _ _ _ _ _ _ _
        refine TrQ.go tblOK (drawOK tblOK) [] (by kernel_rfl) (Le.refl _ _) ?_
        exact ⟨g0, _, _, _, Le.refl _ _, rfl, ⟨(congrArg DoR.x (hE b0)).symm, (congrArg DoR.e (hE b0)).symm, trivial⟩, ⟨rfl, congrArg (fun r => some (Ch.map .str .adr (DoR.es r))) (hE b0).symm, congrArg (fun r => some (Ch.obj (.pool (poolS (DoR.L r))))) (hE b0).symm, trivial⟩, rfl⟩
      | none =>
        rw [hg] at hE
        by_cases hl : es.length < 16
        · have hE : ∀ b, doF room es L o b = ⟨putA es (pName o) (some b), (b, ⟨pN o, room, [], [], []⟩) :: L, [], 0⟩ := fun b => (hE b).trans (if_pos hl)
          refine TrQ.regionX tblOK (by kernel_rfl) ?_
          refine ⟨Nat, _, _, fun b => _, fun b => _, fcreate_ok room es (poolS L) (pName o) (pN o) (by have := hO.name; omega) hc'.1 hc'.2 hg hl, ⟨rfl, rfl, rfl, trivial⟩, rfl, fun _ => rfl, fun b => ?_⟩
          show TrQ _ _ _ _ _ _ _
          refine TrQ.leX (LeX.poolNew 1003 (L := L) (b := b) (m := ⟨pN o, room, [], [], []⟩) rfl) fun hb => ?_
          refine TrQ.go tblOK (drawOK tblOK) [] (by kernel_rfl) (Le.refl _ _) ?_
          exact ⟨⟨b, hb.down⟩, _, _, _, Le.refl _ _, rfl, ⟨(congrArg DoR.x (hE b)).symm, (congrArg DoR.e (hE b)).symm, trivial⟩, ⟨rfl, congrArg (fun r => some (Ch.map .str .adr (DoR.es r))) (hE b).symm, congrArg (fun r => some (Ch.obj (.pool (poolS (DoR.L r))))) (hE b).symm, trivial⟩, rfl⟩
        · have hE : ∀ b, doF room es L o b = ⟨es, L, [], 41⟩ := fun b => (hE b).trans (if_neg hl)
          refine TrQ.go tblOK (drawOK tblOK) [] (by kernel_rfl) (Le.refl _ _) ?_
          refine ⟨_, _, _, _, fcreate_full room es (pName o) (pN o) (by have := hO.name; omega) hc'.1 hc'.2 hg (by omega), ⟨rfl, rfl, trivial⟩, rfl, ?_⟩
          show TrQ _ _ _ _ _ _ _
          refine TrQ.go tblOK (drawOK tblOK) [] (by kernel_rfl) (Le.refl _ _) ?_
          exact ⟨g0, _, _, _, Le.refl _ _, rfl, ⟨(congrArg DoR.x (hE b0)).symm, (congrArg DoR.e (hE b0)).symm, trivial⟩, ⟨rfl, congrArg (fun r => some (Ch.map .str .adr (DoR.es r))) (hE b0).symm, congrArg (fun r => some (Ch.obj (.pool (poolS (DoR.L r))))) (hE b0).symm, trivial⟩, rfl⟩
  have c0 : pKind o ≠ 0 := of_decide_eq_false c0
  refine ⟨fun c1 => ?_, fun c1 => ?_⟩
  · have c1 : pKind o = 1 := of_decide_eq_true c1
    have hE : doF room es L o b0 = _ := (if_neg c0).trans (if_pos c1)
    refine ⟨_, _, _, _, fremove_fn room es (pName o), ⟨rfl, rfl, trivial⟩, rfl, ?_⟩
    exact ⟨g0, _, _, _, Le.refl _ _, rfl, ⟨(congrArg DoR.x hE).symm, (congrArg DoR.e hE).symm, trivial⟩, ⟨rfl, congrArg (fun r => some (Ch.map .str .adr (DoR.es r))) hE.symm, congrArg (fun r => some (Ch.obj (.pool (poolS (DoR.L r))))) hE.symm, trivial⟩, rfl⟩
  have c1 : pKind o ≠ 1 := of_decide_eq_false c1
  refine ⟨fun c2 => ?_, fun c2 => ?_⟩
  · have c2 : pKind o = 2 := of_decide_eq_true c2
    have hE : doF room es L o b0 = _ := (if_neg c0).trans ((if_neg c1).trans (if_pos c2))
    have hto : (pTo o).length ≤ 4294967296 := by have := hO.to; omega
    cases hc : nameOK (pTo o) with
    | false =>
      rw [hc] at hE
      refine ⟨_, _, _, _, frename_arg room es (pName o) (pTo o) hto hc, ⟨rfl, rfl, trivial⟩, rfl, ?_⟩
      exact ⟨g0, _, _, _, Le.refl _ _, rfl, ⟨(congrArg DoR.x hE).symm, (congrArg DoR.e hE).symm, trivial⟩, ⟨rfl, congrArg (fun r => some (Ch.map .str .adr (DoR.es r))) hE.symm, congrArg (fun r => some (Ch.obj (.pool (poolS (DoR.L r))))) hE.symm, trivial⟩, rfl⟩
    | true =>
      rw [hc] at hE
      cases hg : fget es (pName o) with
      | none =>
        rw [hg] at hE
        refine ⟨_, _, _, _, frename_no room es (pName o) (pTo o) hto hc hg, ⟨rfl, rfl, trivial⟩, rfl, ?_⟩
        exact ⟨g0, _, _, _, Le.refl _ _, rfl, ⟨(congrArg DoR.x hE).symm, (congrArg DoR.e hE).symm, trivial⟩, ⟨rfl, congrArg (fun r => some (Ch.map .str .adr (DoR.es r))) hE.symm, congrArg (fun r => some (Ch.obj (.pool (poolS (DoR.L r))))) hE.symm, trivial⟩, rfl⟩
      | some a =>
        rw [hg] at hE
        refine ⟨_, _, _, _, frename_ok room es (pName o) (pTo o) a hto hc hg, ⟨rfl, rfl, trivial⟩, rfl, ?_⟩
        exact ⟨g0, _, _, _, Le.refl _ _, rfl, ⟨(congrArg DoR.x hE).symm, (congrArg DoR.e hE).symm, trivial⟩, ⟨rfl, congrArg (fun r => some (Ch.map .str .adr (DoR.es r))) hE.symm, congrArg (fun r => some (Ch.obj (.pool (poolS (DoR.L r))))) hE.symm, trivial⟩, rfl⟩
  have c2 : pKind o ≠ 2 := of_decide_eq_false c2
  refine ⟨fun c3 => ?_, fun c3 => ?_⟩
  · have c3 : pKind o = 3 := of_decide_eq_true c3
    have hE : doF room es L o b0 = _ := (if_neg c0).trans ((if_neg c1).trans ((if_neg c2).trans (if_pos c3)))
    show TrQ _ _ _ _ _ _ _
    refine TrQ.loop tblOK (drawOK tblOK) [] (by kernel_rfl) (X := Nat) (fun k => dkK o k 2003) (fun k => dkB room es L o k 2003) (fun k => k ≤ (pKeeps o).length) (fun k => (pKeeps o).length - k) 0 (Nat.zero_le _) ?_ ?_
    · exact Le.trans (Le.nil 8 2003 149 uK rfl rfl) (Le.sub ⟨rfl, rfl, rfl, rfl, rfl, rfl, trivial⟩ ⟨rfl, rfl, rfl, rfl, rfl, trivial⟩)
    intro k hk
    have hkl := hO.keeps
    refine ⟨fun hc => ?_, fun hc => ?_⟩
    · have hk1 : k < (pKeeps o).length := by
        have hc : decide ((k : Int) < ((pKeeps o).length : Int)) = true := hc
        simpa using hc
      refine ⟨by omega, (pKeeps o)[k], lgAt (n := k) hk1, ?_⟩
      refine ⟨rfl, ?_⟩
      have hlen : ((pKeeps o).take k).length + 1 ≤ 4294967296 := by rw [List.length_take]; omega
      refine ⟨hlen, rfl, ?_⟩
      refine ⟨by omega, k + 1, by omega, by omega, Le.trans (Le.sub (K' := dkK o (k + 1) 53) (B' := dkB room es L o (k + 1) 53) ⟨rfl, rfl, rfl, rfl, rfl, rfl, trivial⟩ ⟨rfl, rfl, rfl, rfl, ?_, trivial⟩) (Le.ren 53 2003 rfl)⟩
      have : (pKeeps o).take (k + 1) = (pKeeps o).take k ++ [(pKeeps o)[k]] := List.take_succ_eq_append_getElem hk1
      rw [this]
      rfl
    · have hk1 : k = (pKeeps o).length := by
        have hc : decide ((k : Int) < ((pKeeps o).length : Int)) = false := hc
        simp at hc; omega
      subst hk1
      show TrQ _ _ _ _ _ _ _
      refine TrQ.go tblOK (drawOK tblOK) [] (by kernel_rfl) (Le.trans (Le.sub (K' := dkK o (pKeeps o).length 2003) (B' := dkE room es L o) ⟨rfl, rfl, rfl, rfl, rfl, rfl, trivial⟩ ⟨rfl, rfl, rfl, rfl, congrArg (fun l => some (Ch.row 149 uK l)) List.take_length, trivial⟩) (Le.frz 2003 rfl)) ?_
      refine ⟨_, _, _, _, fcrash_fn room es L W (pKeeps o) h.pl hW hkl hO.kl, ⟨rfl, rfl, rfl, trivial⟩, rfl, ?_⟩
      exact ⟨g0, _, _, _, Le.refl _ _, rfl, ⟨(congrArg DoR.x hE).symm, (congrArg DoR.e hE).symm, trivial⟩, ⟨rfl, congrArg (fun r => some (Ch.map .str .adr (DoR.es r))) hE.symm, congrArg (fun r => some (Ch.obj (.pool (poolS (DoR.L r))))) hE.symm, trivial⟩, rfl⟩
  have c3 : pKind o ≠ 3 := of_decide_eq_false c3
  refine ⟨fun c4 => ?_, fun c4 => ?_⟩
  · have c4 : pKind o = 4 := of_decide_eq_true c4
    have hE : doF room es L o b0 = _ := (if_neg c0).trans ((if_neg c1).trans ((if_neg c2).trans ((if_neg c3).trans (if_pos c4))))
    cases hg : fget es (pName o) with
    | none =>
      rw [hg] at hE
      refine ⟨_, _, _, _, fopen_no room es (pName o) hg, ⟨rfl, rfl, trivial⟩, rfl, ?_⟩
      refine ⟨fun _ => ?_, fun hh => absurd hh (by decide)⟩
      exact ⟨g0, _, _, _, Le.refl _ _, rfl, ⟨(congrArg DoR.x hE).symm, (congrArg DoR.e hE).symm, trivial⟩, ⟨rfl, congrArg (fun r => some (Ch.map .str .adr (DoR.es r))) hE.symm, congrArg (fun r => some (Ch.obj (.pool (poolS (DoR.L r))))) hE.symm, trivial⟩, rfl⟩
    | some a =>
      rw [hg] at hE
      obtain ⟨m, hm, h1, h2⟩ := fget_ex h.pl hg
      have hE : doF room es L o b0 = ⟨es, sset L a (m.op (pS o)).1, (m.op (pS o)).2.1, (m.op (pS o)).2.2⟩ := by
        rw [hE]
        simp only
        rw [hm]
      refine ⟨_, _, _, _, fopen_ok room es (pName o) a hg, ⟨rfl, rfl, trivial⟩, rfl, ?_⟩
      refine ⟨fun hh => absurd hh (by decide), fun _ => ?_⟩
      refine ⟨fun _ _ => ?_, fun hh => by cases hh⟩
      refine ⟨_, _, _, _, poolFn (stores_fn m (pS o) h1 hO.b hO.keep (by omega)) hm rfl rfl, ⟨rfl, trivial⟩, rfl, ?_⟩
      exact ⟨g0, _, _, _, Le.refl _ _, rfl, ⟨(congrArg DoR.x hE).symm, (congrArg DoR.e hE).symm, trivial⟩, ⟨rfl, congrArg (fun r => some (Ch.map .str .adr (DoR.es r))) hE.symm, congrArg (fun r => some (Ch.obj (.pool (poolS (DoR.L r))))) hE.symm, trivial⟩, rfl⟩
  have c4 : pKind o ≠ 4 := of_decide_eq_false c4
  have hE : doF room es L o b0 = ⟨es, L, [], 0⟩ := (if_neg c0).trans ((if_neg c1).trans ((if_neg c2).trans ((if_neg c3).trans (if_neg c4))))
  exact ⟨g0, _, _, _, Le.refl _ _, rfl, ⟨(congrArg DoR.x hE).symm, (congrArg DoR.e hE).symm, trivial⟩, ⟨rfl, congrArg (fun r => some (Ch.map .str .adr (DoR.es r))) hE.symm, congrArg (fun r => some (Ch.obj (.pool (poolS (DoR.L r))))) hE.symm, trivial⟩, rfl⟩
end Go.Proofs.Ythghcdddambaeaa
