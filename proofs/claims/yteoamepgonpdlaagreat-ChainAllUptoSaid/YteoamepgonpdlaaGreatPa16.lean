/-
Part 16 of the proof that stands in YteoamepgonpdlaaGreatPaRow, with what it needs from the parts ahead; the parts of this text: Lz, Qg, Sm, Rr, Qh, Qm, Pp, Qn, Iu, Ib, Qo.
-/
import Derived.Laws.StructEq
import Derived.Test.YteoamepgonpdlaaGreatPa15
/-!
  Chains: scripts of calls: few, does.
-/
namespace Go.Proofs.YteoamepgonpdlaaGreat
set_option linter.unusedVariables false
set_option linter.unusedSimpArgs false
set_option maxRecDepth 10000
open Go.RowKit Go.Proofs
@[reducible] def uQ : U := .pr uI (.pr uI (.pr uI (.pr (.sl .u8) .str)))
@[reducible] def uC : U := .pr uI (.pr uI (.pr .str (.pr .str uQ)))
abbrev Cq := Int × Int × Int × List UInt8 × List UInt8
abbrev Cop := Int × Int × List UInt8 × List UInt8 × Cq
@[reducible] def cK (o : Cop) : Int := o.1
@[reducible] def cSz (o : Cop) : Int := o.2.1
@[reducible] def cNm (o : Cop) : List UInt8 := o.2.2.1
@[reducible] def cOt (o : Cop) : List UInt8 := o.2.2.2.1
@[reducible] def cQ (o : Cop) : Cq := o.2.2.2.2
@[reducible] def qK (q : Cq) : Int := q.1
@[reducible] def qA (q : Cq) : Int := q.2.1
@[reducible] def qL (q : Cq) : Int := q.2.2.1
@[reducible] def qB (q : Cq) : List UInt8 := q.2.2.2.1
@[reducible] def qN (q : Cq) : List UInt8 := q.2.2.2.2
@[reducible] def cqL (q : Cq) : List S1 := [.d (.int .i64 (qK q)), .d (.int .i64 (qA q)), .d (.int .i64 (qL q)), .d (.lst .u8 (qB q)), .d (.str (qN q))]
@[reducible] def copL (o : Cop) : List S1 := [.d (.int .i64 (cK o)), .d (.int .i64 (cSz o)), .d (.str (cNm o)), .d (.str (cOt o)), .d (.int .i64 (qK (cQ o))), .d (.int .i64 (qA (cQ o))), .d (.int .i64 (qL (cQ o))), .d (.lst .u8 (qB (cQ o))), .d (.str (qN (cQ o)))]
@[reducible] def copV (o : Cop) : SV := .c (.agg (copL o))
/-! ### few -/
def cTot (o : Cop) : Nat := (qB (cQ o)).length + (cNm o).length + (cOt o).length
def cBad (o : Cop) : Bool := decide (12 < cSz o) && decide (cSz o ≤ 256)
def cTo (l : List Cop) (k : Nat) : Nat := ((l.take k).map cTot).sum
theorem csum_le : ∀ (l : List Nat) (k : Nat), (l.take k).sum ≤ l.sum
 | [], k => by simp
 | x :: l, 0 => by simp
 | x :: l, k + 1 => by
   have := csum_le l k
   simp
   omega
theorem cTo_le (l : List Cop) (k : Nat) : cTo l k ≤ (l.map cTot).sum := by
 unfold cTo
 rw [List.map_take]
 exact csum_le _ _
theorem cTo_succ (l : List Cop) {k : Nat} (h : k < l.length) : cTo l (k + 1) = cTo l k + cTot l[k] := by
 unfold cTo
 rw [List.take_add_one, List.getElem?_eq_getElem h, List.map_append, List.sum_append]
 rfl
theorem cTot_le {l : List Cop} {o : Cop} (h : o ∈ l) : cTot o ≤ (l.map cTot).sum := by
 induction l with
 | nil => cases h
 | cons x l ih =>
   rw [List.map_cons, List.sum_cons]
   rcases List.mem_cons.1 h with rfl | h
   · omega
   · have := ih h
     omega
/-- .. up to the k-th none is bad. -/
def cGood (l : List Cop) (k : Nat) : Prop := ∀ (i : Nat) (o : Cop), i < k → l[i]? = some o → cBad o = false
theorem cGood.succ {l : List Cop} {k : Nat} (h : cGood l k) (hk : k < l.length) (hb : cBad l[k] = false) : cGood l (k + 1) := fun i o hi ho => by
 by_cases e : i = k
 · subst e
   rw [List.getElem?_eq_getElem hk] at ho
   injection ho with ho
   rw [← ho]
   exact hb
 · exact h i o (by omega) ho
def fewO (m : Nat) (l : List Cop) : Bool := (l.all fun o => !cBad o) && (decide (l.length ≤ m) && decide ((l.map cTot).sum ≤ 6000))
theorem fewO_bad {m : Nat} {l : List Cop} {k : Nat} (hk : k < l.length) (hb : cBad l[k] = true) : fewO m l = false := by
 unfold fewO
 rw [show (l.all fun o => !cBad o) = false from Bool.eq_false_iff.2 fun h => by
   have := List.all_eq_true.1 h _ (List.getElem_mem hk)
   rw [hb] at this
   cases this]
 rfl
theorem fewO_get {m : Nat} {l : List Cop} (h : fewO m l = true) : l.length ≤ m ∧ (l.map cTot).sum ≤ 6000 ∧ ∀ o, o ∈ l → cTot o ≤ 6000 ∧ cBad o = false := by
 unfold fewO at h
 simp only [Bool.and_eq_true] at h
 have h2 := of_decide_eq_true h.2.2
 refine ⟨of_decide_eq_true h.2.1, h2, fun o ho => ⟨Nat.le_trans (cTot_le ho) h2, ?_⟩⟩
 have := List.all_eq_true.1 h.1 o ho
 simpa using this
/-! ### does -/
structure DR where
 x : List UInt8
 e : Int
 L : List Dsk
def CR.dr (r : CR) : DR := ⟨[], r.e, r.L⟩
def doQ (bits : Nat) (L : List Dsk) (nm : List UInt8) (q : Cq) : DR :=
 if qK q = 0 then ⟨(rdC bits L nm (qA q) (qL q)).1, (rdC bits L nm (qA q) (qL q)).2, L⟩ else if qK q = 1 then (wrC bits L nm (qA q) (qB q)).dr
 else if qK q = 2 then (zrC bits L nm (qA q) (qL q)).dr else if qK q = 3 then (dsC L nm (qA q) (qL q)).dr else ⟨[], 0, L⟩
def doC (bits room : Nat) (L : List Dsk) (o : Cop) (p : Nat × Nat) : DR :=
 if cK o = 0 then (adC bits room L (cNm o) (cSz o) (cOt o) p).dr else if cK o = 1 then (rmC L (cNm o)).dr else if cK o = 2 then (rbC L (cNm o) (cOt o)).dr
 else if cK o = 3 then doQ bits L (cNm o) (cQ o) else ⟨[], 0, L⟩
theorem doQ_cs {bits room : Nat} {L : List Dsk} (h : CS bits room L) (nm : List UInt8) (q : Cq) : CS bits room (doQ bits L nm q).L := by
 unfold doQ
 split
 · exact h
 · split
   · exact wrC_cs h _ _ _
   · split
     · exact zrC_cs h _ _ _
     · split
       · exact dsC_cs h _ _ _
       · exact h
theorem doC_cs {bits room : Nat} {L : List Dsk} (h : CS bits room L) {o : Cop} (hk : cK o ≠ 0) (p : Nat × Nat) : CS bits room (doC bits room L o p).L := by
 unfold doC
 rw [if_neg hk]
 split
 · exact rmC_cs h _
 · split
   · exact rbC_cs h _ _
   · split
     · exact doQ_cs h _ _
     · exact h
/-! Chains: what the bulk of a script bounds. -/
theorem bulkc_u8 : ∀ s : List UInt8, bulkU (.sl .u8) s = 1 + s.length
 | [] => rfl
 | b :: s => by
   have ih := bulkc_u8 s
   have e2 : bulkU (.sl .u8) s = 1 + (List.map (bulkU .u8) s).sum := rfl
   show 1 + (1 + (List.map (bulkU .u8) s).sum) = 1 + (s.length + 1)
   omega
theorem bulkc_op (o : Cop) : bulkU uC o = 9 + cTot o + (qN (cQ o)).length := by
 have h1 := bulkc_u8 (qB (cQ o))
 have e : bulkU uC o = 1 + (1 + ((1 + (cNm o).length) + ((1 + (cOt o).length) + (1 + (1 + (1 + (bulkU (.sl .u8) (qB (cQ o)) + (1 + (qN (cQ o)).length)))))))) := rfl
 rw [e, h1]
 unfold cTot
 omega
theorem bulkc_ops : ∀ l : List Cop, 1 + l.length + (l.map cTot).sum ≤ bulkU (.sl uC) l
 | [] => Nat.le_refl _
 | o :: l => by
   have h1 := bulkc_ops l
   have e2 : bulkU (.sl uC) l = 1 + (List.map (bulkU uC) l).sum := rfl
   have e3 := bulkc_op o
   show 1 + (l.length + 1) + (cTot o + (l.map cTot).sum) ≤ 1 + (bulkU uC o + (List.map (bulkU uC) l).sum)
   omega
end Go.Proofs.YteoamepgonpdlaaGreat
/-!
  The document's image (layer 12): New, Do.
-/
namespace Go.Proofs.YteoamepgonpdlaaGreat
set_option linter.unusedVariables false
set_option linter.unusedSimpArgs false
set_option maxRecDepth 10000
open Go.RowKit Go.Proofs
section
variable {P : Program} {ids : List Nat} {K : KL} {B : BL}
/-- Cells, all Holes. -/
theorem opOK_makeCells {o : Oper} {T e d : Nat} {x y : Operand} {inf : TypeInfo} {n : Int} (ho : o.op = .makeSlice T x y) (hT : P.underlying T = some (.slice e)) (hi : P.info? e = some inf) (hz : inf.zero = some (.agg #[.int .i64 0, .int .i64 0])) (hs : inf.size = 2) (hb : inf.bytes = 16)
   (hx : opv K x = .c (.one (.d (.int .i64 n)))) (hy : opv K y = .c (.one (.d (.int .i64 n)))) (h0 : 0 ≤ n) (h1 : n ≤ 1000000) (N : Nat) : OpOK P N ids o K B (.c (.one (.own d))) ⟨[], [d], [(d, some (.row e uCe (List.replicate n.toNat (mkCe 0 0))))]⟩ := by
 have m1 : x ∈ o.op.operands := by rw [ho]; simp [Op.operands]
 have m2 : y ∈ o.op.operands := by rw [ho]; simp [Op.operands]
 refine OpOK.make (fun d h => has_own h) fun K' B' g1 g2 C ρ F a w hM hS hn => ?_
 have hx' := hS.int ((g1 x m1).trans hx)
 have hy' := hS.int ((g1 y m2).trans hy)
 have hrun := run_make (P := P) w T e inf _ hT hi hz .i64 .i64 n n h0 (Int.le_refl _) (by rw [hb]; omega) (by omega)
 have hcells : madeCells (Value.agg #[.int .i64 0, .int .i64 0]).cells (n.toNat * inf.size) = (List.replicate (n.toNat * 2) (Value.int .i64 0)).toArray := by
   rw [hs]
   simp [madeCells, Value.cells]
   apply Array.ext
   · simp
   · intro i h1 h2
     have : i % 2 = 0 ∨ i % 2 = 1 := by omega
     rcases this with h | h <;> simp [h]
 rw [hcells] at hrun
 refine ⟨.slice (some ⟨w.heap.size, 0, none⟩) n.toNat n.toNat, w.alloc (.cells (List.replicate (n.toNat * 2) (.int .i64 0)).toArray e), ⟨w.heap.size, some ⟨w.heap.size, 0, none⟩, n.toNat, n.toNat⟩, fun b => b = w.heap.size, ?_, alloc_below w _, fun b hb => ?_, fun I hE hI => ⟨⟨?_, ?_, List.replicate (n.toNat * 2) (.int .i64 0), ?_, ?_⟩, ?_⟩⟩
 · simp only [execOp, ho, Sem.run_bind, hx', hy', hrun, Result.andThen_ok, Sem.run_pure]
 · subst hb; simp
 · intro b
   simp [Pl.hdr, Value.ownBlock, eq_comm]
 · intro b hb
   simp [Pl.hdr, Value.ownBlock] at hb
   exact hb.symm
 · have := ownsRow_new w e 2 n.toNat (List.replicate (n.toNat * 2) (.int .i64 0)) (by simp) (by simp only [maxLen]; omega)
   have e1 : List.length (α := El uCe) (List.replicate n.toNat (mkCe 0 0)) = n.toNat := List.length_replicate
   rw [e1]
   exact this
 · intro i z hz
   obtain ⟨hi, hz'⟩ := List.getElem?_eq_some_iff.1 hz
   have hz2 : z = mkCe 0 0 := by rw [← hz']; exact List.getElem_replicate ..
   subst hz2
   have hi : i < n.toNat := by
     have h1 : i < List.length (α := Cell) (List.replicate n.toNat (mkCe 0 0)) := hi
     rw [List.length_replicate] at h1
     exact h1
   have g : ∀ j, j < 2 → (List.replicate (n.toNat * 2) (Value.int .i64 0))[i * 2 + j]? = some (.int .i64 0) := fun j hj => by
     rw [List.getElem?_replicate, if_pos (by omega)]
   exact ⟨g 0 (by decide), g 1 (by decide)⟩
 · simp only [DenV, DenC, DenS, upd_same]
   rfl
end
theorem infCz : (Tryz.prog.info? 148).map (fun i => (i.zero, i.bytes, i.size)) = some (some (.agg #[.int .i64 0, .int .i64 0]), 16, 2) := by kernel_rfl
theorem infCz_get : ∃ i, Tryz.prog.info? 148 = some i ∧ i.zero = some (.agg #[.int .i64 0, .int .i64 0]) ∧ i.bytes = 16 ∧ i.size = 2 := by
 cases e : Tryz.prog.info? 148 with
 | none => have h := infCz; rw [e] at h; cases h
 | some i =>
   have h := infCz
   rw [e] at h
   simp only [Option.map_some, Option.some.injEq, Prod.mk.injEq] at h
   exact ⟨i, rfl, h.1, h.2.1, h.2.2⟩
@[reducible] def qnwK (b s r : Int) (k : Nat) : KL := [(0, vI b), (1, vI s), (2, vI r), (6, vP 6), (8, vI ((2 ^ k : Nat) : Int)), (9, vI (k : Nat))]
@[reducible] def qnwB : BL := [(6, .cells tbl.t104.zero)]
theorem mnew_own {bits size room : Int} (h : newMay bits size room = true) : Fn Tryz.prog 48 [vI bits, vI size, vI room] [] [2001] (.tup [.agg [.d (.int .i64 ((2 ^ bits.toNat : Nat) : Int)), .d (.int .i64 room), .own 2001, .d (.lst uSn []), .d (.lst .str [])], .one (.d (.bool true))])
   ([] ++ [(2001, .row 148 uCe (List.replicate size.toNat (mkCe 0 0)))]) := by
 obtain ⟨⟨a1, a2⟩, ⟨a3, a4⟩, a5, a6⟩ := newMay_get h
 refine Fn.of tblOK [] _ _ _ _ _ Tryz.func48 rfl rfl (by kernel_rfl) (by kernel_rfl) rfl (drawOK tblOK) rfl ?_
 refine ⟨rfl, ?_⟩
 refine ⟨fun c => absurd (of_decide_eq_true c) (by omega), fun _ => ?_⟩
 refine ⟨fun c => absurd (of_decide_eq_true c) (by omega), fun _ => ?_⟩
 refine ⟨fun c => absurd (of_decide_eq_true c) (by omega), fun _ => ?_⟩
 refine ⟨fun c => absurd (of_decide_eq_true c) (by omega), fun _ => ?_⟩
 refine ⟨fun c => absurd (of_decide_eq_true c) (by omega), fun _ => ?_⟩
 refine ⟨fun c => absurd (of_decide_eq_true c) (by omega), fun _ => ?_⟩
 show TrQ _ _ _ _ _ _ _
 refine TrQ.loop tblOK (drawOK tblOK) [] (by kernel_rfl) (X := Nat) (qnwK bits size room) (fun _ => qnwB) (fun k => (k : Int) ≤ bits) (fun k => bits.toNat - k) 0 a5 ?_ ?_
 · exact Le.sub ⟨rfl, rfl, rfl, rfl, rfl, rfl, trivial⟩ ⟨rfl, trivial⟩
 intro k hk
 have h8 : 2 ^ k ≤ 2 ^ 3 := Nat.pow_le_pow_right (by omega) (by omega)
 refine ⟨fun h1 => ?_, fun h1 => ?_⟩
 · have h1 : ((k : Nat) : Int) < bits := of_decide_eq_true h1
   have e : ((2 ^ k : Nat) : Int) + ((2 ^ k : Nat) : Int) = ((2 ^ (k + 1) : Nat) : Int) := by rw [Nat.pow_succ]; generalize 2 ^ k = P at *; omega
   have b1 : (-9223372036854775808 : Int) ≤ ((2 ^ k : Nat) : Int) + ((2 ^ k : Nat) : Int) ∧ ((2 ^ k : Nat) : Int) + ((2 ^ k : Nat) : Int) ≤ 9223372036854775807 := by generalize 2 ^ k = P at *; omega
   refine ⟨b1, ?_⟩
   exact ⟨by omega, k + 1, by omega, by omega, Le.sub ⟨rfl, rfl, rfl, rfl, e, rfl, trivial⟩ ⟨rfl, trivial⟩⟩
 · have h1 : ¬ ((k : Nat) : Int) < bits := of_decide_eq_false h1
   have hk1 : k = bits.toNat := by omega
   subst hk1
   obtain ⟨ii, i1, i2, i3, i4⟩ := infCz_get
   refine ⟨_, _, fun N => opOK_makeCells (d := 44) rfl Tryz.underlying100 i1 i2 i4 i3 rfl rfl a1 (by omega) N, rfl, ?_⟩
   exact ⟨_, _, _, Le.ren 44 2001 rfl, rfl, ⟨⟨rfl, rfl, rfl, rfl, rfl, trivial⟩, rfl, trivial⟩, ⟨rfl, trivial⟩, rfl⟩
theorem mnew_fn (bits size room : Int) : Fn Tryz.prog 48 [vI bits, vI size, vI room] [] [] (.tup [.agg (imL (newM bits size room)), .one (.d (.bool (newMay bits size room)))]) [] := by
 cases h : newMay bits size room with
 | true =>
   have e : newM bits size room = mkM ((2 ^ bits.toNat : Nat) : Int) room (List.replicate size.toNat (mkCe 0 0)) [] [] := by unfold newM; rw [h]
   rw [e]
   exact Fn.frzR (d := 2001) (mnew_own h) rfl rfl rfl
 | false =>
   have e : newM bits size room = mkM 0 0 [] [] [] := by unfold newM; rw [h]
   rw [e]
   have no : ¬ ((0 ≤ size ∧ size ≤ 256) ∧ (0 ≤ room ∧ room ≤ 512) ∧ 0 ≤ bits ∧ bits ≤ 3) := fun ⟨⟨a1, a2⟩, ⟨a3, a4⟩, a5, a6⟩ => by
     unfold newMay at h
     rw [decide_eq_true a1, decide_eq_true a2, decide_eq_true a3, decide_eq_true a4, decide_eq_true a5, decide_eq_true a6] at h
     exact absurd h (by decide)
   refine Fn.of tblOK [] _ _ _ _ _ Tryz.func48 rfl rfl (by kernel_rfl) (by kernel_rfl) rfl (drawOK tblOK) rfl ?_
   refine ⟨rfl, ?_⟩
   refine ⟨fun c1 => ?_, fun c1 => ?_⟩
   · exact ⟨_, _, _, Le.refl _ _, rfl, ⟨⟨rfl, rfl, rfl, rfl, rfl, trivial⟩, rfl, trivial⟩, trivial, rfl⟩
   have c1 := of_decide_eq_false c1
   refine ⟨fun c2 => ?_, fun c2 => ?_⟩
   · exact ⟨_, _, _, Le.refl _ _, rfl, ⟨⟨rfl, rfl, rfl, rfl, rfl, trivial⟩, rfl, trivial⟩, trivial, rfl⟩
   have c2 := of_decide_eq_false c2
   refine ⟨fun c3 => ?_, fun c3 => ?_⟩
   · exact ⟨_, _, _, Le.refl _ _, rfl, ⟨⟨rfl, rfl, rfl, rfl, rfl, trivial⟩, rfl, trivial⟩, trivial, rfl⟩
   have c3 := of_decide_eq_false c3
   refine ⟨fun c4 => ?_, fun c4 => ?_⟩
   · exact ⟨_, _, _, Le.refl _ _, rfl, ⟨⟨rfl, rfl, rfl, rfl, rfl, trivial⟩, rfl, trivial⟩, trivial, rfl⟩
   have c4 := of_decide_eq_false c4
   refine ⟨fun c5 => ?_, fun c5 => ?_⟩
   · exact ⟨_, _, _, Le.refl _ _, rfl, ⟨⟨rfl, rfl, rfl, rfl, rfl, trivial⟩, rfl, trivial⟩, trivial, rfl⟩
   have c5 := of_decide_eq_false c5
   refine ⟨fun c6 => ?_, fun c6 => ?_⟩
   · exact ⟨_, _, _, Le.refl _ _, rfl, ⟨⟨rfl, rfl, rfl, rfl, rfl, trivial⟩, rfl, trivial⟩, trivial, rfl⟩
   have c6 := of_decide_eq_false c6
   exact absurd ⟨⟨by omega, by omega⟩, ⟨by omega, by omega⟩, by omega, by omega⟩ no
/-! ### Do -/
@[reducible] def cqV (q : Cq) : SV := .c (.agg (cqL q))
def doM (n : Nat) (m : Rim) (q : Cq) (bel : List (List UInt8)) : Rim × Int :=
 if qK q = 1 then writeM n m (qA q) (qB q) bel false
 else if qK q = 2 then (if insE n (mC m).length (qA q) (qL q) = 0 then writeM n m (qA q) (List.replicate (16 * qL q).toNat 0) bel true else (m, insE n (mC m).length (qA q) (qL q)))
 else discM n m (qA q) (qL q)
set_option maxHeartbeats 2000000 in
theorem mdo_fn {n : Nat} {m : Rim} (h : MOK n m) (q : Cq) (bel : List (List UInt8)) (hq : qK q = 1 ∨ qK q = 2 ∨ qK q = 3) (hb : (qB q).length ≤ 1000000) (hbl : bel.length ≤ 1000000) (hd : (mD m).length + 256 ≤ 100000) :
   Fn Tryz.prog 98 [imV m, cqV q, vL .str bel] [] [] (.tup [.agg (imL (doM n m q bel).1), .one (.d (.str [])), vErr (doM n m q bel).2]) [] := by
 have hn := h.n8
 have hc := h.cl
 have hnc : n * (mC m).length ≤ 8 * 256 := Nat.mul_le_mul hn hc
 unfold doM
 refine Fn.of tblOK [] _ _ _ _ _ Tryz.func98 rfl rfl (by kernel_rfl) (by kernel_rfl) rfl (drawOK tblOK) rfl ?_
 refine ⟨rfl, ?_⟩
 refine ⟨rfl, ?_⟩
 refine ⟨rfl, ?_⟩
 refine ⟨fun c => absurd (of_decide_eq_true c) (by omega), fun _ => ?_⟩
 refine ⟨fun c1 => ?_, fun c1 => ?_⟩
 · have c1 : qK q = 1 := of_decide_eq_true c1
   rw [if_pos c1]
   refine ⟨_, _, _, _, Fn.arg (mwrite_fn h (qA q) (qB q) bel false hb hbl hd) ⟨⟨rfl, rfl, rfl, rfl, rfl, trivial⟩, rfl, rfl, rfl, rfl, trivial⟩, trivial, rfl, ?_⟩
   exact ⟨_, _, _, Le.refl _ _, rfl, ⟨⟨rfl, rfl, rfl, rfl, rfl, trivial⟩, rfl, rfl, trivial⟩, trivial, rfl⟩
 have c1 : ¬ qK q = 1 := of_decide_eq_false c1
 rw [if_neg c1]
 refine ⟨fun c2 => ?_, fun c2 => ?_⟩
 · have c2 : qK q = 2 := of_decide_eq_true c2
   rw [if_pos c2]
   refine ⟨_, _, _, _, minside_fn h (qA q) (qL q), trivial, rfl, ?_⟩
   refine ⟨fun c3 => ?_, fun c3 => ?_⟩
   · have c3 : insE n (mC m).length (qA q) (qL q) = 0 := of_decide_eq_true c3
     rw [if_pos c3]
     obtain ⟨b1, b2, b3⟩ := insE_zero c3
     have q16 : -9223372036854775808 ≤ 16 * qL q ∧ 16 * qL q ≤ 9223372036854775807 := by omega
     refine ⟨q16, ?_⟩
     refine ⟨by omega, rfl, ?_⟩
     refine ⟨_, _, _, _, Fn.arg (mwrite_fn h (qA q) (List.replicate (16 * qL q).toNat 0) bel true (by rw [List.length_replicate]; omega) hbl hd) ⟨⟨rfl, rfl, rfl, rfl, rfl, trivial⟩, rfl, rfl, rfl, rfl, trivial⟩, trivial, rfl, ?_⟩
     refine ⟨rfl, ?_⟩
     exact ⟨_, _, _, Le.refl _ _, rfl, ⟨⟨rfl, rfl, rfl, rfl, rfl, trivial⟩, rfl, rfl, trivial⟩, trivial, rfl⟩
   · have c3 : ¬ insE n (mC m).length (qA q) (qL q) = 0 := of_decide_eq_false c3
     rw [if_neg c3]
     exact ⟨_, _, _, Le.refl _ _, rfl, ⟨⟨rfl, rfl, rfl, rfl, rfl, trivial⟩, rfl, rfl, trivial⟩, trivial, rfl⟩
 have c2 : ¬ qK q = 2 := of_decide_eq_false c2
 rw [if_neg c2]
 refine ⟨fun _ => ?_, fun c3 => absurd (of_decide_eq_false c3) (by omega)⟩
 refine ⟨_, _, _, _, mdisc_fn h (qA q) (qL q), trivial, rfl, ?_⟩
 exact ⟨_, _, _, Le.refl _ _, rfl, ⟨⟨rfl, rfl, rfl, rfl, rfl, trivial⟩, rfl, rfl, trivial⟩, trivial, rfl⟩
end Go.Proofs.YteoamepgonpdlaaGreat
/-!
  The document's SameTexts and Right (layer 4).
-/
namespace Go.Proofs.YteoamepgonpdlaaGreat
set_option linter.unusedVariables false
set_option linter.unusedSimpArgs false
set_option maxRecDepth 10000
open Go.RowKit Go.Proofs
theorem sameT_spec (a b : List (List UInt8)) (hl : a.length ≤ 4294967296) : Fn Tryz.prog 62 [vL .str a, vL .str b] [] [] (vB (decide (a = b))) [] := by
 refine Fn.of tblOK [] _ _ _ _ _ Tryz.func62 rfl rfl (by kernel_rfl) (by kernel_rfl) rfl (drawOK tblOK) rfl ?_
 refine ⟨fun h => ?_, fun h => ?_⟩
 · refine ⟨_, _, _, Le.refl _ _, rfl, (show false = decide (a = b) from ?_), trivial, rfl⟩
   have hne : a.length ≠ b.length := fun e => by
     have h : (!decide ((a.length : Int) = (b.length : Int))) = true := h
     simp [e] at h
   exact (decide_eq_false fun e => hne (by rw [e])).symm
 have hlen : a.length = b.length := by
   have h : (!decide ((a.length : Int) = (b.length : Int))) = false := h
   simp at h
   omega
 show TrQ _ _ _ _ _ _ _
 refine TrQ.loop tblOK (drawOK tblOK) [] (by kernel_rfl) (X := Nat) (fun k => [(0, vL .str a), (1, vL .str b), (5, vI (k : Nat))]) (fun _ => []) (fun k => k ≤ a.length ∧ ∀ (i : Nat), i < k → a[i]? = b[i]?) (fun k => a.length - k) 0 ⟨Nat.zero_le _, fun i h => absurd h (Nat.not_lt_zero _)⟩ ?_ ?_
 · exact Le.sub ⟨rfl, rfl, rfl, trivial⟩ trivial
 intro k ⟨hk, hp⟩
 refine ⟨fun h => ?_, fun h => ?_⟩
 · have hk1 : k < a.length := by
     have h : decide ((k : Int) < (a.length : Int)) = true := h
     simpa using h
   have hk2 : k < b.length := by omega
   refine ⟨by omega, a[k], lgetAt (n := k) hk1, ?_⟩
   refine ⟨by omega, b[k], lgetAt (n := k) hk2, ?_⟩
   refine ⟨rfl, fun h2 => ?_, fun h2 => ?_⟩
   · refine ⟨_, _, _, Le.refl _ _, rfl, (show false = decide (a = b) from ?_), trivial, rfl⟩
     have h2 : (!decide (a[k] = b[k])) = true := h2
     refine (decide_eq_false fun e => ?_).symm
     subst e
     simp at h2
   · have h2 : (!decide (a[k] = b[k])) = false := h2
     have h3 : a[k] = b[k] := by simpa using h2
     refine ⟨by omega, k + 1, ⟨by omega, fun i hi => ?_⟩, by omega, Le.sub ⟨rfl, rfl, rfl, trivial⟩ trivial⟩
     rcases Nat.lt_or_ge i k with h4 | h4
     · exact hp i h4
     · have : i = k := by omega
       subst this
       rw [List.getElem?_eq_getElem hk1, List.getElem?_eq_getElem hk2, h3]
 · have h : decide ((k : Int) < (a.length : Int)) = false := h
   have hk2 : k = a.length := by simp at h; omega
   refine ⟨_, _, _, Le.refl _ _, rfl, (show true = decide (a = b) from ?_), trivial, rfl⟩
   refine (decide_eq_true ?_).symm
   apply List.ext_getElem?
   intro i
   rcases Nat.lt_or_ge i a.length with h4 | h4
   · exact hp i (by omega)
   · rw [List.getElem?_eq_none h4, List.getElem?_eq_none (by omega)]
end Go.Proofs.YteoamepgonpdlaaGreat
/-!
  The document's Right (layer 4).
-/
namespace Go.Proofs.YteoamepgonpdlaaGreat
set_option linter.unusedVariables false
set_option linter.unusedSimpArgs false
set_option maxRecDepth 10000
open Go.RowKit Go.Proofs
def signs : List UInt8 := [97, 98, 99, 100, 101, 102, 103, 104, 105, 106, 107, 108, 109, 110, 111, 112, 113, 114, 115, 116, 117, 118, 119, 120, 121, 122, 48, 49, 50, 51, 52, 53, 54, 55, 56, 57, 46, 45]
theorem signs_any (c : UInt8) : signs.any (fun x => decide (x = c)) = signB c := by
 have h : ∀ n : Fin 256, signs.any (fun x => decide (x = UInt8.ofNat n.val)) = signB (UInt8.ofNat n.val) := by decide
 have := h ⟨c.toNat, c.toNat_lt⟩
 simpa using this
theorem refRight_spec (s : List UInt8) (hs : s.length ≤ 4294967296) : Fn Tryz.prog 94 [vS s] [] [] (vB (nameOK s)) [] := by
 refine Fn.of tblOK [] _ _ _ _ _ Tryz.func94 rfl rfl (by kernel_rfl) (by kernel_rfl) rfl (drawOK tblOK) rfl ?_
 show TrQ _ _ _ _ _ _ _
 refine TrQ.loop tblOK (drawOK tblOK) [] (by kernel_rfl) (X := Nat) (fun k => [(0, vS s), (3, vS signs), (4, vI (k : Nat))]) (fun _ => []) (fun k => k ≤ s.length ∧ ∀ (i : Nat) c, i < k → s[i]? = some c → signB c = true) (fun k => s.length - k) 0 ⟨Nat.zero_le _, fun i c h => absurd h (Nat.not_lt_zero _)⟩ ?_ ?_
 · exact Le.sub ⟨rfl, rfl, rfl, trivial⟩ trivial
 intro k ⟨hk, hp⟩
 refine ⟨fun h => ?_, fun h => ?_⟩
 · have hk1 : k < s.length := by
     have h : decide ((k : Int) < (s.length : Int)) = true := h
     simpa using h
   show TrQ _ _ _ _ _ _ _
   refine TrQ.loop tblOK (drawOK tblOK) [] (by kernel_rfl) (X := Nat × Bool) (fun x => [(0, vS s), (3, vS signs), (4, vI (k : Nat)), (5, vB x.2), (6, vI (x.1 : Nat))]) (fun _ => []) (fun x => x.1 ≤ signs.length ∧ x.2 = (signs.take x.1).any fun y => decide (y = s[k])) (fun x => signs.length - x.1) (0, false) ⟨Nat.zero_le _, rfl⟩ ?_ ?_
   · exact Le.sub ⟨rfl, rfl, rfl, rfl, rfl, trivial⟩ trivial
   rintro ⟨j, fd⟩ ⟨hj, hfd⟩
   simp only at hj hfd
   refine ⟨fun h2 => ?_, fun h2 => ?_⟩
   · have hj1 : j < signs.length := by
       have h2 : decide ((j : Int) < (signs.length : Int)) = true := h2
       simpa using h2
     have hsl : signs.length = 38 := rfl
     have ht : signs.take (j + 1) = signs.take j ++ [signs[j]] := by simp
     refine ⟨by omega, signs[j], lgetAt (n := j) hj1, ?_⟩
     refine ⟨by omega, s[k], lgetAt (n := k) hk1, ?_⟩
     refine ⟨rfl, fun h3 => ?_, fun h3 => ?_⟩
     · refine ⟨by omega, (j + 1, true), ⟨by omega, ?_⟩, by omega, Le.sub ⟨rfl, rfl, rfl, rfl, rfl, trivial⟩ trivial⟩
       have h3 : decide ((UInt8.toNat signs[j] : Int) = (UInt8.toNat s[k] : Int)) = true := h3
       have h4 : signs[j] = s[k] := UInt8.toNat_inj.1 (by have := of_decide_eq_true h3; omega)
       show true = _
       rw [ht, List.any_append]
       simp [h4]
     · refine ⟨by omega, (j + 1, fd), ⟨by omega, ?_⟩, by omega, Le.sub ⟨rfl, rfl, rfl, rfl, rfl, trivial⟩ trivial⟩
       have h3 : decide ((UInt8.toNat signs[j] : Int) = (UInt8.toNat s[k] : Int)) = false := h3
       have h4 : signs[j] ≠ s[k] := fun e => by rw [e] at h3; simp at h3
       show fd = _
       rw [ht, List.any_append, hfd]
       simp [h4]
   · have hj1 : j = signs.length := by
       have h2 : decide ((j : Int) < (signs.length : Int)) = false := h2
       simp at h2; omega
     rw [hj1, List.take_length, signs_any] at hfd
     subst hfd
     refine ⟨fun h3 => ?_, fun h3 => ?_⟩
     · have h3 : (!signB s[k]) = true := h3
       refine ⟨_, _, _, Le.refl _ _, rfl, (show false = nameOK s from ?_), trivial, rfl⟩
       have : s.all signB = false := by
         rw [Bool.eq_false_iff]
         intro h4
         have := List.all_eq_true.1 h4 s[k] (List.getElem_mem _)
         rw [this] at h3
         cases h3
       simp [nameOK, this]
     · have h3 : (!signB s[k]) = false := h3
       refine ⟨by omega, k + 1, ⟨by omega, fun i c hi hc => ?_⟩, by omega, Le.sub ⟨rfl, rfl, rfl, trivial⟩ trivial⟩
       rcases Nat.lt_or_ge i k with h4 | h4
       · exact hp i c h4 hc
       · have : i = k := by omega
         subst this
         rw [List.getElem?_eq_getElem hk1] at hc
         injection hc with hc
         subst hc
         simpa using h3
 · have hk2 : k = s.length := by
     have h : decide ((k : Int) < (s.length : Int)) = false := h
     simp at h; omega
   have hall : s.all signB = true := List.all_eq_true.2 fun c hc => by
     obtain ⟨i, hi, rfl⟩ := List.getElem_of_mem hc
     exact hp i _ (by omega) (List.getElem?_eq_getElem hi)
   refine ⟨fun h1 => ?_, fun h1 => ?_⟩
   · have h1 : decide ((0 : Int) < (s.length : Int)) = true := h1
     refine ⟨_, _, _, Le.refl _ _, rfl, (show decide ((s.length : Int) < 16) = nameOK s from ?_), trivial, rfl⟩
     simp at h1
     have q1 : decide (1 ≤ s.length) = true := by simp; omega
     have q2 : decide ((s.length : Int) < 16) = decide (s.length ≤ 15) := by
       by_cases h9 : s.length ≤ 15
       · rw [decide_eq_true h9, decide_eq_true (by omega)]
       · rw [decide_eq_false h9, decide_eq_false (by omega)]
     rw [nameOK, hall, q1, q2]
     simp
   · have h1 : decide ((0 : Int) < (s.length : Int)) = false := h1
     refine ⟨_, _, _, Le.refl _ _, rfl, (show false = nameOK s from ?_), trivial, rfl⟩
     simp at h1
     simp [nameOK, h1]
end Go.Proofs.YteoamepgonpdlaaGreat
/-!
  The document's chain (layer 14): New, add, rebase, sectors, Do.
-/
namespace Go.Proofs.YteoamepgonpdlaaGreat
set_option linter.unusedVariables false
set_option linter.unusedSimpArgs false
set_option maxRecDepth 10000
open Go.RowKit Go.Proofs
theorem cnew_fn (bits room : Int) : Fn Tryz.prog 7 [vI bits, vI room] [] [] (.tup [.agg (rcL bits room []), .one (.d (.bool (newMay bits 0 room)))]) [] := by
 refine Fn.of tblOK [] _ _ _ _ _ Tryz.func7 rfl rfl (by kernel_rfl) (by kernel_rfl) rfl (drawOK tblOK) rfl ?_
 refine ⟨rfl, ?_⟩
 refine ⟨_, _, _, _, mnew_fn bits 0 room, trivial, rfl, ?_⟩
 refine ⟨rfl, ?_⟩
 exact ⟨_, _, _, Le.refl _ _, rfl, ⟨⟨rfl, rfl, rfl, trivial⟩, rfl, trivial⟩, trivial, rfl⟩
/-! ### add -/
def adR (bits room : Int) (l : List Rdk) (nm : List UInt8) (size : Int) (ot : List UInt8) : List Rdk × Int :=
 if newMay bits size room = false then (l, 1)
 else if nameOK nm = false then (l, 1)
 else if 0 ≤ fdI l nm then (l, 143)
 else if 16 ≤ l.length then (l, 143)
 else if ot ≠ [] ∧ fdI l ot < 0 then (l, 140)
 else if ot ≠ [] ∧ 8 ≤ dqR l ot then (l, 142)
 else (ptR l (mkDk nm ot (newM bits size room)), 0)
set_option maxHeartbeats 1000000 in
theorem cadd_fn (bits room : Int) (l : List Rdk) (o : Cop) (hl : l.length ≤ 1073741824) (hn : (cNm o).length ≤ 4294967296) : Fn Tryz.prog 54 [rcV bits room l, copV o] [] [] (.tup [.agg (rcL bits room (adR bits room l (cNm o) (cSz o) (cOt o)).1), vErr (adR bits room l (cNm o) (cSz o) (cOt o)).2]) [] := by
 unfold adR
 refine Fn.of tblOK [] _ _ _ _ _ Tryz.func54 rfl rfl (by kernel_rfl) (by kernel_rfl) rfl (drawOK tblOK) rfl ?_
 refine ⟨rfl, ?_⟩
 refine ⟨rfl, ?_⟩
 refine ⟨rfl, ?_⟩
 refine ⟨_, _, _, _, mnew_fn bits (cSz o) room, trivial, rfl, ?_⟩
 refine ⟨rfl, ?_⟩
 refine ⟨fun c1 => ?_, fun c1 => ?_⟩
 · have c1 : (!newMay bits (cSz o) room) = true := c1
   have c1 : newMay bits (cSz o) room = false := by simpa using c1
   rw [if_pos c1]
   exact ⟨_, _, _, Le.refl _ _, rfl, ⟨⟨rfl, rfl, rfl, trivial⟩, rfl, trivial⟩, trivial, rfl⟩
 have c1 : (!newMay bits (cSz o) room) = false := c1
 have c1 : newMay bits (cSz o) room = true := by simpa using c1
 rw [if_neg (by rw [c1]; decide)]
 refine ⟨_, _, _, _, refRight_spec (cNm o) hn, trivial, rfl, ?_⟩
 refine ⟨fun c2 => ?_, fun c2 => ?_⟩
 · have c2 : (!nameOK (cNm o)) = true := c2
   have c2 : nameOK (cNm o) = false := by simpa using c2
   rw [if_pos c2]
   exact ⟨_, _, _, Le.refl _ _, rfl, ⟨⟨rfl, rfl, rfl, trivial⟩, rfl, trivial⟩, trivial, rfl⟩
 have c2 : (!nameOK (cNm o)) = false := c2
 have c2 : nameOK (cNm o) = true := by simpa using c2
 rw [if_neg (by rw [c2]; decide)]
 refine ⟨_, _, _, _, cfind_fn bits room l (cNm o) hl, trivial, rfl, ?_⟩
 refine ⟨fun c3 => ?_, fun c3 => ?_⟩
 · have c3 : 0 ≤ fdI l (cNm o) := of_decide_eq_true c3
   rw [if_pos c3]
   exact ⟨_, _, _, Le.refl _ _, rfl, ⟨⟨rfl, rfl, rfl, trivial⟩, rfl, trivial⟩, trivial, rfl⟩
 have c3 : ¬ 0 ≤ fdI l (cNm o) := of_decide_eq_false c3
 rw [if_neg c3]
 refine ⟨fun c4 => ?_, fun c4 => ?_⟩
 · have c4 : (16 : Int) ≤ ((l.length : Nat) : Int) := of_decide_eq_true c4
   rw [if_pos (by omega)]
   exact ⟨_, _, _, Le.refl _ _, rfl, ⟨⟨rfl, rfl, rfl, trivial⟩, rfl, trivial⟩, trivial, rfl⟩
 have c4 : ¬ (16 : Int) ≤ ((l.length : Nat) : Int) := of_decide_eq_false c4
 rw [if_neg (by omega)]
 refine ⟨fun c5 => ?_, fun c5 => ?_⟩
 · have c5 : (!decide (cOt o = [])) = true := c5
   have c5 : cOt o ≠ [] := by simpa using c5
   refine ⟨_, _, _, _, cfind_fn bits room l (cOt o) hl, trivial, rfl, ?_⟩
   refine ⟨fun c6 => ?_, fun c6 => ?_⟩
   · have c6 : fdI l (cOt o) < 0 := of_decide_eq_true c6
     rw [if_pos ⟨c5, c6⟩]
     exact ⟨_, _, _, Le.refl _ _, rfl, ⟨⟨rfl, rfl, rfl, trivial⟩, rfl, trivial⟩, trivial, rfl⟩
   have c6 : ¬ fdI l (cOt o) < 0 := of_decide_eq_false c6
   rw [if_neg (fun q => c6 q.2)]
   refine ⟨fun _ => ?_, fun c7 => absurd (show (!decide (cOt o = [])) = false from c7) (by rw [decide_eq_false c5]; decide)⟩
   refine ⟨_, _, _, _, cdepth_fn bits room l (cOt o) hl, trivial, rfl, ?_⟩
   refine ⟨fun c8 => ?_, fun c8 => ?_⟩
   · have c8 : (8 : Int) ≤ ((dqR l (cOt o) : Nat) : Int) := of_decide_eq_true c8
     rw [if_pos ⟨c5, by omega⟩]
     exact ⟨_, _, _, Le.refl _ _, rfl, ⟨⟨rfl, rfl, rfl, trivial⟩, rfl, trivial⟩, trivial, rfl⟩
   have c8 : ¬ (8 : Int) ≤ ((dqR l (cOt o) : Nat) : Int) := of_decide_eq_false c8
   rw [if_neg (fun q => c8 (by have := q.2; omega))]
   refine ⟨_, _, _, _, cput_fn l (mkDk (cNm o) (cOt o) (newM bits (cSz o) room)) hl, trivial, rfl, ?_⟩
   exact ⟨_, _, _, Le.refl _ _, rfl, ⟨⟨rfl, rfl, rfl, trivial⟩, rfl, trivial⟩, trivial, rfl⟩
 · have c5 : (!decide (cOt o = [])) = false := c5
   have c5 : cOt o = [] := by simpa using c5
   rw [if_neg (fun q => q.1 c5), if_neg (fun q => q.1 c5)]
   refine ⟨fun c7 => absurd (show (!decide (cOt o = [])) = true from c7) (by rw [decide_eq_true c5]; decide), fun _ => ?_⟩
   refine ⟨_, _, _, _, cput_fn l (mkDk (cNm o) (cOt o) (newM bits (cSz o) room)) hl, trivial, rfl, ?_⟩
   exact ⟨_, _, _, Le.refl _ _, rfl, ⟨⟨rfl, rfl, rfl, trivial⟩, rfl, trivial⟩, trivial, rfl⟩
/-! ### rebase -/
def stR (l : List Rdk) (nm : List UInt8) (d : Rdk) : List Rdk := l.set (fdI l nm).toNat d
def rbR (l : List Rdk) (nm ot : List UInt8) : List Rdk × Int := match gtR l nm with
 | none => (l, 140)
 | some d => if ot ≠ [] ∧ fdI l ot < 0 then (l, 140)
   else if dqR (stR l nm (mkDk (dN d) ot (dIm d))) nm = 99 then (l, 141)
   else if (stR l nm (mkDk (dN d) ot (dIm d))).all (fun x => decide (dqR (stR l nm (mkDk (dN d) ot (dIm d))) (dN x) ≤ 8)) then (stR l nm (mkDk (dN d) ot (dIm d)), 0)
   else (l, 142)
@[reducible] def rbK14 (k : Nat) : KL := [(2, vP 2), (3, vP 3), (4, vP 4), (8, vP 8), (9, vI (k : Nat))]
@[reducible] def rbB14 (bits room : Int) (l : List Rdk) (o : Cop) (N : List Rdk) : BL := [(2, .cells (rcL bits room l)), (3, .cells (copL o)), (4, .cells tbl.t29.zero), (8, .cells (rcL bits room N))]
set_option maxHeartbeats 1000000 in
theorem crebase_fn (bits room : Int) (l : List Rdk) (o : Cop) (hl : l.length ≤ 1073741824) : Fn Tryz.prog 57 [rcV bits room l, copV o] [] [] (.tup [.agg (rcL bits room (rbR l (cNm o) (cOt o)).1), vErr (rbR l (cNm o) (cOt o)).2]) [] := by
 unfold rbR
 refine Fn.of tblOK [] _ _ _ _ _ Tryz.func57 rfl rfl (by kernel_rfl) (by kernel_rfl) rfl (drawOK tblOK) rfl ?_
 refine ⟨rfl, ?_⟩
 refine ⟨rfl, ?_⟩
 refine ⟨rfl, ?_⟩
 refine ⟨_, _, _, _, cfind_fn bits room l (cNm o) hl, trivial, rfl, ?_⟩
 refine ⟨fun c1 => ?_, fun c1 => ?_⟩
 · have c1 : fdI l (cNm o) < 0 := of_decide_eq_true c1
   rw [fdI_neg c1]
   exact ⟨_, _, _, Le.refl _ _, rfl, ⟨⟨rfl, rfl, rfl, trivial⟩, rfl, trivial⟩, trivial, rfl⟩
 have c1 : ¬ fdI l (cNm o) < 0 := of_decide_eq_false c1
 obtain ⟨i, hi, e1, e2, e3⟩ := fdI_pos c1
 rw [e2]
 simp only
 have hget : lget l (fdI l (cNm o)).toNat = some l[i] := by rw [show (fdI l (cNm o)).toNat = i by omega]; exact lgAt (n := i) hi
 have hst : ∀ d, stR l (cNm o) d = l.set i d := fun d => by unfold stR; rw [show (fdI l (cNm o)).toNat = i by omega]
 have hin : (0 : Int) ≤ fdI l (cNm o) ∧ fdI l (cNm o) < ((l.length : Nat) : Int) := by omega
 rw [hst]
 refine ⟨fun c2 => ?_, fun c2 => ?_⟩
 focus
   have c2 : (!decide (cOt o = [])) = true := c2
   have c2 : cOt o ≠ [] := by simpa using c2
   refine ⟨_, _, _, _, cfind_fn bits room l (cOt o) hl, trivial, rfl, ?_⟩
   refine ⟨fun c3 => ?_, fun c3 => ?_⟩
   · have c3 : fdI l (cOt o) < 0 := of_decide_eq_true c3
     rw [if_pos ⟨c2, c3⟩]
     exact ⟨_, _, _, Le.refl _ _, rfl, ⟨⟨rfl, rfl, rfl, trivial⟩, rfl, trivial⟩, trivial, rfl⟩
   have c3 : ¬ fdI l (cOt o) < 0 := of_decide_eq_false c3
   rw [if_neg (fun q => c3 q.2)]
 rotate_left
 focus
   have c2 : (!decide (cOt o = [])) = false := c2
   have c2 : cOt o = [] := by simpa using c2
   rw [if_neg (fun q => q.1 c2)]
 all_goals
   refine ⟨hin.1, l[i], hget, ?_⟩
   refine ⟨rfl, ?_⟩
   refine ⟨_, _, _, _, Fn.arg (cwith_fn bits room l (k := i) hl hi (mkDk (dN l[i]) (cOt o) (dIm l[i]))) ⟨⟨rfl, rfl, rfl, trivial⟩, e1, ⟨rfl, rfl, rfl, rfl, rfl, rfl, rfl, trivial⟩, trivial⟩, trivial, rfl, ?_⟩
   refine ⟨rfl, ?_⟩
   generalize hN : l.set i (mkDk (dN l[i]) (cOt o) (dIm l[i])) = N at *
   have hNl : N.length = l.length := by rw [← hN, List.length_set]
   refine ⟨_, _, _, _, cdepth_fn bits room N (cNm o) (by omega), trivial, rfl, ?_⟩
   refine ⟨fun c4 => ?_, fun c4 => ?_⟩
   · have c4 : ((dqR N (cNm o) : Nat) : Int) = 99 := of_decide_eq_true c4
     rw [if_pos (by omega)]
     exact ⟨_, _, _, Le.refl _ _, rfl, ⟨⟨rfl, rfl, rfl, trivial⟩, rfl, trivial⟩, trivial, rfl⟩
   have c4 : ¬ ((dqR N (cNm o) : Nat) : Int) = 99 := of_decide_eq_false c4
   rw [if_neg (by omega)]
   show TrQ _ _ _ _ _ _ _
   refine TrQ.loop tblOK (drawOK tblOK) [] (by kernel_rfl) (X := Nat) rbK14 (fun _ => rbB14 bits room l o N) (fun k => k ≤ N.length ∧ ∀ (j : Nat) x, j < k → N[j]? = some x → dqR N (dN x) ≤ 8) (fun k => N.length - k) 0 ⟨Nat.zero_le _, fun j x h => absurd h (Nat.not_lt_zero _)⟩ ?_ ?_
   · exact Le.sub ⟨rfl, rfl, rfl, rfl, rfl, trivial⟩ ⟨rfl, rfl, rfl, rfl, trivial⟩
   rintro k ⟨hk, hp⟩
   refine ⟨fun h1 => ?_, fun h1 => ?_⟩
   · have h1 : ((k : Nat) : Int) < ((N.length : Nat) : Int) := of_decide_eq_true h1
     have hk1 : k < N.length := by omega
     refine ⟨by omega, N[k], lgAt (n := k) hk1, ?_⟩
     refine ⟨_, _, _, _, cdepth_fn bits room N (dN N[k]) (by omega), trivial, rfl, ?_⟩
     refine ⟨rfl, fun h2 => ?_, fun h2 => ?_⟩
     · have h2 : (8 : Int) < ((dqR N (dN N[k]) : Nat) : Int) := of_decide_eq_true h2
       rw [if_neg (fun q => by
         have := of_decide_eq_true (List.all_eq_true.1 q _ (List.getElem_mem hk1))
         omega)]
       exact ⟨_, _, _, Le.refl _ _, rfl, ⟨⟨rfl, rfl, rfl, trivial⟩, rfl, trivial⟩, trivial, rfl⟩
     · have h2 : ¬ (8 : Int) < ((dqR N (dN N[k]) : Nat) : Int) := of_decide_eq_false h2
       refine ⟨by omega, k + 1, ⟨by omega, fun j x hj hx => ?_⟩, by omega, Le.sub ⟨rfl, rfl, rfl, rfl, rfl, trivial⟩ ⟨rfl, rfl, rfl, rfl, trivial⟩⟩
       rcases Nat.lt_or_ge j k with h4 | h4
       · exact hp j x h4 hx
       · have : j = k := by omega
         subst this
         rw [List.getElem?_eq_getElem hk1] at hx
         injection hx with hx
         rw [← hx]
         omega
   · have h1 : ¬ ((k : Nat) : Int) < ((N.length : Nat) : Int) := of_decide_eq_false h1
     have hk1 : k = N.length := by omega
     rw [if_pos (List.all_eq_true.2 fun x hx => by
       obtain ⟨j, hj, rfl⟩ := List.getElem_of_mem hx
       exact decide_eq_true (hp j _ (by omega) (List.getElem?_eq_getElem hj)))]
     exact ⟨_, _, _, Le.refl _ _, rfl, ⟨⟨rfl, rfl, rfl, trivial⟩, rfl, trivial⟩, trivial, rfl⟩
/-! ### sectors -/
def beR (n : Nat) (l : List Rdk) (x : List UInt8) (k : Nat) : List (List UInt8) := (List.range k).map (clR n l x)
theorem beR_succ (n : Nat) (l : List Rdk) (x : List UInt8) (k : Nat) : beR n l x (k + 1) = beR n l x k ++ [clR n l x k] := by
 unfold beR
 rw [List.range_succ, List.map_append]
 rfl
theorem beR_len (n : Nat) (l : List Rdk) (x : List UInt8) (k : Nat) : (beR n l x k).length = k := by unfold beR; rw [List.length_map, List.length_range]
structure SR where
 l : List Rdk
 x : List UInt8
 e : Int
def scR (n : Nat) (l : List Rdk) (nm : List UInt8) (q : Cq) : SR := match gtR l nm with
 | none => ⟨l, [], 140⟩
 | some d => if qK q = 0 then (if insE n (mC (dIm d)).length (qA q) (qL q) = 0 then ⟨l, ((alTo n l nm (mC (dIm d)).length).take (16 * (qA q + qL q)).toNat).drop (16 * qA q).toNat, 0⟩ else ⟨l, [], insE n (mC (dIm d)).length (qA q) (qL q)⟩)
   else ⟨stR l nm (mkDk (dN d) (dB d) (doM n (dIm d) q (beR n l nm (mC (dIm d)).length)).1), [], (doM n (dIm d) q (beR n l nm (mC (dIm d)).length)).2⟩
@[reducible] def qscK (i : Int) (b k : Nat) : KL := [(2, vP 2), (3, vP 3), (4, vP 4), (7, vI i), (8, vP 8), (10, vOwn b), (11, vI (k : Nat))]
@[reducible] def qscB (bits room : Int) (l : List Rdk) (o : Cop) (d : Rdk) (b : Nat) (x : List (List UInt8)) : BL := [(2, .cells (rcL bits room l)), (3, .cells (copL o)), (4, .cells tbl.t29.zero), (8, .cells (dkL d)), (b, .row 9 .str x)]
set_option maxHeartbeats 2000000 in
theorem csectors_fn {n : Nat} {l : List Rdk} (h : COK n l) (bits room : Int) (o : Cop) (hq : qK (cQ o) = 0 ∨ qK (cQ o) = 1 ∨ qK (cQ o) = 2 ∨ qK (cQ o) = 3) (hb : (qB (cQ o)).length ≤ 1000000) (hd : ∀ d, d ∈ l → (mD (dIm d)).length + 256 ≤ 100000) :
   Fn Tryz.prog 58 [rcV bits room l, copV o] [] [] (.tup [.agg (rcL bits room (scR n l (cNm o) (cQ o)).l), .one (.d (.str (scR n l (cNm o) (cQ o)).x)), vErr (scR n l (cNm o) (cQ o)).e]) [] := by
 have hl := h.len
 unfold scR
 refine Fn.of tblOK [15] _ _ _ _ _ Tryz.func58 rfl rfl (by kernel_rfl) (by kernel_rfl) rfl (drawOK tblOK) rfl ?_
 refine ⟨rfl, ?_⟩
 refine ⟨rfl, ?_⟩
 refine ⟨rfl, ?_⟩
 refine ⟨_, _, _, _, cfind_fn bits room l (cNm o) (by omega), trivial, rfl, ?_⟩
 refine ⟨fun c1 => ?_, fun c1 => ?_⟩
 · have c1 : fdI l (cNm o) < 0 := of_decide_eq_true c1
   rw [fdI_neg c1]
   exact ⟨_, _, _, Le.refl _ _, rfl, ⟨⟨rfl, rfl, rfl, trivial⟩, rfl, rfl, trivial⟩, trivial, rfl⟩
 have c1 : ¬ fdI l (cNm o) < 0 := of_decide_eq_false c1
 obtain ⟨i, hi, e1, e2, e3⟩ := fdI_pos c1
 rw [e2]
 simp only
 have hget : lget l (fdI l (cNm o)).toNat = some l[i] := by rw [show (fdI l (cNm o)).toNat = i by omega]; exact lgAt (n := i) hi
 have hst : ∀ d, stR l (cNm o) d = l.set i d := fun d => by unfold stR; rw [show (fdI l (cNm o)).toNat = i by omega]
 have hin : (0 : Int) ≤ fdI l (cNm o) ∧ fdI l (cNm o) < ((l.length : Nat) : Int) := by omega
 have hM := h.ok _ (List.getElem_mem hi)
 have hdd := hd _ (List.getElem_mem hi)
 rw [hst]
 generalize hx : l[i] = d at *
 have hcl := hM.cl
 have hn8 := hM.n8
 have hnc : n * (mC (dIm d)).length ≤ 8 * 256 := Nat.mul_le_mul hn8 hcl
 refine ⟨hin.1, d, hget, ?_⟩
 refine ⟨rfl, ?_⟩
 refine ⟨fun c2 => ?_, fun c2 => ?_⟩
 · have c2 : qK (cQ o) = 0 := of_decide_eq_true c2
   rw [if_pos c2]
   refine ⟨_, _, _, _, minside_fn hM (qA (cQ o)) (qL (cQ o)), trivial, rfl, ?_⟩
   refine ⟨fun c3 => ?_, fun c3 => ?_⟩
   · have c3 : (!decide (insE n (mC (dIm d)).length (qA (cQ o)) (qL (cQ o)) = 0)) = true := c3
     have c3 : ¬ insE n (mC (dIm d)).length (qA (cQ o)) (qL (cQ o)) = 0 := by simpa using c3
     rw [if_neg c3]
     exact ⟨_, _, _, Le.refl _ _, rfl, ⟨⟨rfl, rfl, rfl, trivial⟩, rfl, rfl, trivial⟩, trivial, rfl⟩
   have c3 : (!decide (insE n (mC (dIm d)).length (qA (cQ o)) (qL (cQ o)) = 0)) = false := c3
   have c3 : insE n (mC (dIm d)).length (qA (cQ o)) (qL (cQ o)) = 0 := by simpa using c3
   rw [if_pos c3]
   obtain ⟨b1, b2, b3⟩ := insE_zero c3
   refine ⟨_, _, _, _, call_fn h bits room (cNm o) e2, trivial, rfl, ?_⟩
   have al := alTo_len h (cNm o) (mC (dIm d)).length
   have q1 : -9223372036854775808 ≤ 16 * qA (cQ o) ∧ 16 * qA (cQ o) ≤ 9223372036854775807 := by omega
   have q2 : -9223372036854775808 ≤ qA (cQ o) + qL (cQ o) ∧ qA (cQ o) + qL (cQ o) ≤ 9223372036854775807 := by omega
   have q3 : -9223372036854775808 ≤ 16 * (qA (cQ o) + qL (cQ o)) ∧ 16 * (qA (cQ o) + qL (cQ o)) ≤ 9223372036854775807 := by omega
   have q4 : 0 ≤ 16 * qA (cQ o) ∧ 16 * qA (cQ o) ≤ 16 * (qA (cQ o) + qL (cQ o)) ∧ 16 * (qA (cQ o) + qL (cQ o)) ≤ ((alTo n l (cNm o) (mC (dIm d)).length).length : Nat) := by
     rw [al, Nat.mul_assoc]
     generalize n * (mC (dIm d)).length = N at *
     omega
   refine ⟨q1, q2, q3, q4, ?_⟩
   refine ⟨rfl, ?_⟩
   exact ⟨_, _, _, Le.refl _ _, rfl, ⟨⟨rfl, rfl, rfl, trivial⟩, rfl, rfl, trivial⟩, trivial, rfl⟩
 have c2 : ¬ qK (cQ o) = 0 := of_decide_eq_false c2
 rw [if_neg c2]
 show TrQ _ _ _ _ _ _ _
 refine TrQ.loop tblOK (drawOK tblOK) [15] (by kernel_rfl) (X := Nat) (fun k => qscK (fdI l (cNm o)) 2003 k) (fun k => qscB bits room l o d 2003 (beR n l (cNm o) k)) (fun k => k ≤ (mC (dIm d)).length) (fun k => (mC (dIm d)).length - k) 0 (Nat.zero_le _) ?_ ?_
 · exact Le.trans (Le.nil 10 2003 9 .str rfl rfl) (Le.sub ⟨rfl, rfl, rfl, rfl, rfl, rfl, rfl, trivial⟩ ⟨rfl, rfl, rfl, rfl, rfl, trivial⟩)
 intro k hk
 refine ⟨fun h1 => ?_, fun h1 => ?_⟩
 · have h1 : ((k : Nat) : Int) < (((mC (dIm d)).length : Nat) : Int) := of_decide_eq_true h1
   refine ⟨_, _, _, _, ccluster_fn h bits room (cNm o) k e2 (by omega), trivial, rfl, ?_⟩
   have b1 : (beR n l (cNm o) k).length + 1 ≤ 4294967296 := by rw [beR_len]; omega
   refine ⟨b1, rfl, ?_⟩
   refine ⟨by omega, k + 1, by omega, by omega, Le.trans (Le.sub (K' := qscK (fdI l (cNm o)) 77 (k + 1)) (B' := qscB bits room l o d 77 (beR n l (cNm o) (k + 1))) ⟨rfl, rfl, rfl, rfl, rfl, rfl, rfl, trivial⟩ ⟨rfl, rfl, rfl, rfl, ?_, trivial⟩) (Le.ren 77 2003 rfl)⟩
   rw [beR_succ]
   rfl
 · have h1 : ¬ ((k : Nat) : Int) < (((mC (dIm d)).length : Nat) : Int) := of_decide_eq_false h1
   have hk1 : k = (mC (dIm d)).length := by omega
   subst hk1
   show TrQ _ _ _ _ _ _ _
   refine TrQ.go tblOK (drawOK tblOK) [] (by kernel_rfl) (Le.frz 2003 rfl) ?_
   refine ⟨_, _, _, _, mdo_fn hM (cQ o) (beR n l (cNm o) (mC (dIm d)).length) (by omega) hb (by rw [beR_len]; omega) hdd, trivial, rfl, ?_⟩
   refine ⟨rfl, ?_⟩
   refine ⟨_, _, _, _, Fn.arg (cwith_fn bits room l (k := i) (by omega) hi (mkDk (dN d) (dB d) (doM n (dIm d) (cQ o) (beR n l (cNm o) (mC (dIm d)).length)).1)) ⟨⟨rfl, rfl, rfl, trivial⟩, e1, ⟨rfl, rfl, rfl, rfl, rfl, rfl, rfl, trivial⟩, trivial⟩, trivial, rfl, ?_⟩
   exact ⟨_, _, _, Le.refl _ _, rfl, ⟨⟨rfl, rfl, rfl, trivial⟩, rfl, rfl, trivial⟩, trivial, rfl⟩
/-! ### Do -/
def rmR (l : List Rdk) (nm : List UInt8) : SR := match gtR l nm with
 | none => ⟨l, [], 140⟩
 | some _ => if 0 < (usR l nm).length then ⟨l, [], 143⟩ else ⟨l.take (fdI l nm).toNat ++ l.drop ((fdI l nm).toNat + 1), [], 0⟩
def doR14 (n : Nat) (bits room : Int) (l : List Rdk) (o : Cop) : SR :=
 if cK o = 0 then ⟨(adR bits room l (cNm o) (cSz o) (cOt o)).1, [], (adR bits room l (cNm o) (cSz o) (cOt o)).2⟩
 else if cK o = 1 then rmR l (cNm o)
 else if cK o = 2 then ⟨(rbR l (cNm o) (cOt o)).1, [], (rbR l (cNm o) (cOt o)).2⟩
 else if cK o = 3 ∧ 0 ≤ qK (cQ o) ∧ qK (cQ o) ≤ 3 then scR n l (cNm o) (cQ o)
 else ⟨l, [], 0⟩
set_option maxHeartbeats 2000000 in
theorem cdo_fn {n : Nat} {l : List Rdk} (h : COK n l) (bits room : Int) (o : Cop) (hn : (cNm o).length ≤ 4294967296) (hb : (qB (cQ o)).length ≤ 1000000) (hd : ∀ d, d ∈ l → (mD (dIm d)).length + 256 ≤ 100000) :
   Fn Tryz.prog 10 [rcV bits room l, copV o] [] [] (.tup [.agg (rcL bits room (doR14 n bits room l o).l), .one (.d (.str (doR14 n bits room l o).x)), vErr (doR14 n bits room l o).e]) [] := by
 have hl := h.len
 unfold doR14
 refine Fn.of tblOK [17] _ _ _ _ _ Tryz.func10 rfl rfl (by kernel_rfl) (by kernel_rfl) rfl (drawOK tblOK) rfl ?_
 refine ⟨rfl, ?_⟩
 refine ⟨rfl, ?_⟩
 refine ⟨rfl, ?_⟩
 refine ⟨fun c0 => ?_, fun c0 => ?_⟩
 · have c0 : cK o = 0 := of_decide_eq_true c0
   rw [if_pos c0]
   refine ⟨_, _, _, _, cadd_fn bits room l o (by omega) hn, trivial, rfl, ?_⟩
   show TrQ _ _ _ _ _ _ _
   refine TrQ.go tblOK (drawOK tblOK) [] (by kernel_rfl) (Le.refl _ _) ?_
   exact ⟨_, _, _, Le.refl _ _, rfl, ⟨⟨rfl, rfl, rfl, trivial⟩, rfl, rfl, trivial⟩, trivial, rfl⟩
 have c0 : ¬ cK o = 0 := of_decide_eq_false c0
 rw [if_neg c0]
 refine ⟨fun c1 => ?_, fun c1 => ?_⟩
 · have c1 : cK o = 1 := of_decide_eq_true c1
   rw [if_pos c1]
   unfold rmR
   refine ⟨_, _, _, _, cfind_fn bits room l (cNm o) (by omega), trivial, rfl, ?_⟩
   refine ⟨fun c2 => ?_, fun c2 => ?_⟩
   · have c2 : fdI l (cNm o) < 0 := of_decide_eq_true c2
     rw [fdI_neg c2]
     exact ⟨_, _, _, Le.refl _ _, rfl, ⟨⟨rfl, rfl, rfl, trivial⟩, rfl, rfl, trivial⟩, trivial, rfl⟩
   have c2 : ¬ fdI l (cNm o) < 0 := of_decide_eq_false c2
   obtain ⟨i, hi, e1, e2, e3⟩ := fdI_pos c2
   rw [e2]
   simp only
   refine ⟨_, _, _, _, cusers_fn bits room l (cNm o) (by omega), trivial, rfl, ?_⟩
   refine ⟨fun c3 => ?_, fun c3 => ?_⟩
   · have c3 : (0 : Int) < (((usR l (cNm o)).length : Nat) : Int) := of_decide_eq_true c3
     rw [if_pos (by omega)]
     exact ⟨_, _, _, Le.refl _ _, rfl, ⟨⟨rfl, rfl, rfl, trivial⟩, rfl, rfl, trivial⟩, trivial, rfl⟩
   have c3 : ¬ (0 : Int) < (((usR l (cNm o)).length : Nat) : Int) := of_decide_eq_false c3
   rw [if_neg (by omega)]
   have q1 : 0 ≤ fdI l (cNm o) ∧ fdI l (cNm o) ≤ ((l.length : Nat) : Int) := by omega
   refine ⟨rfl, q1, ?_⟩
   have b1 : (0 : Nat) + (l.take (fdI l (cNm o)).toNat).length ≤ 4294967296 := by rw [List.length_take]; omega
   refine ⟨b1, rfl, ?_⟩
   have q2 : -9223372036854775808 ≤ fdI l (cNm o) + 1 ∧ fdI l (cNm o) + 1 ≤ 9223372036854775807 := by omega
   refine ⟨q2, ?_⟩
   have q3 : 0 ≤ fdI l (cNm o) + 1 ∧ fdI l (cNm o) + 1 ≤ ((l.length : Nat) : Int) := by omega
   refine ⟨q3, ?_⟩
   have b2 : (l.take (fdI l (cNm o)).toNat).length + ((l.take l.length).drop (fdI l (cNm o) + 1).toNat).length ≤ 4294967296 := by rw [List.length_take, List.length_drop, List.length_take]; omega
   refine ⟨b2, rfl, rfl, ?_⟩
   show TrQ _ _ _ _ _ _ _
   refine TrQ.go tblOK (drawOK tblOK) [] (by kernel_rfl) (Le.frz 46 rfl) ?_
   have e5 : (fdI l (cNm o) + 1).toNat = (fdI l (cNm o)).toNat + 1 := by omega
   have e6 : (l.take l.length).drop (fdI l (cNm o) + 1).toNat = l.drop ((fdI l (cNm o)).toNat + 1) := by rw [List.take_length, e5]
   exact ⟨_, _, _, Le.refl _ _, rfl, ⟨⟨rfl, rfl, congrArg (fun z : List Rdk => l.take (fdI l (cNm o)).toNat ++ z) e6, trivial⟩, rfl, rfl, trivial⟩, trivial, rfl⟩
 have c1 : ¬ cK o = 1 := of_decide_eq_false c1
 rw [if_neg c1]
 refine ⟨fun c2 => ?_, fun c2 => ?_⟩
 · have c2 : cK o = 2 := of_decide_eq_true c2
   rw [if_pos c2]
   refine ⟨_, _, _, _, crebase_fn bits room l o (by omega), trivial, rfl, ?_⟩
   show TrQ _ _ _ _ _ _ _
   refine TrQ.go tblOK (drawOK tblOK) [] (by kernel_rfl) (Le.refl _ _) ?_
   exact ⟨_, _, _, Le.refl _ _, rfl, ⟨⟨rfl, rfl, rfl, trivial⟩, rfl, rfl, trivial⟩, trivial, rfl⟩
 have c2 : ¬ cK o = 2 := of_decide_eq_false c2
 rw [if_neg c2]
 refine ⟨fun c3 => ?_, fun c3 => ?_⟩
 · have c3 : cK o = 3 := of_decide_eq_true c3
   refine ⟨fun c4 => ?_, fun c4 => ?_⟩
   · have c4 : 0 ≤ qK (cQ o) := of_decide_eq_true c4
     refine ⟨fun c5 => ?_, fun c5 => ?_⟩
     · have c5 : qK (cQ o) ≤ 3 := of_decide_eq_true c5
       rw [if_pos ⟨c3, c4, c5⟩]
       refine ⟨_, _, _, _, csectors_fn h bits room o (by omega) hb hd, trivial, rfl, ?_⟩
       exact ⟨_, _, _, Le.refl _ _, rfl, ⟨⟨rfl, rfl, rfl, trivial⟩, rfl, rfl, trivial⟩, trivial, rfl⟩
     · have c5 : ¬ qK (cQ o) ≤ 3 := of_decide_eq_false c5
       rw [if_neg (fun q => c5 q.2.2)]
       show TrQ _ _ _ _ _ _ _
       refine TrQ.go tblOK (drawOK tblOK) [] (by kernel_rfl) (Le.refl _ _) ?_
       exact ⟨_, _, _, Le.refl _ _, rfl, ⟨⟨rfl, rfl, rfl, trivial⟩, rfl, rfl, trivial⟩, trivial, rfl⟩
   · have c4 : ¬ 0 ≤ qK (cQ o) := of_decide_eq_false c4
     rw [if_neg (fun q => c4 q.2.1)]
     show TrQ _ _ _ _ _ _ _
     refine TrQ.go tblOK (drawOK tblOK) [] (by kernel_rfl) (Le.refl _ _) ?_
     exact ⟨_, _, _, Le.refl _ _, rfl, ⟨⟨rfl, rfl, rfl, trivial⟩, rfl, rfl, trivial⟩, trivial, rfl⟩
 · have c3 : ¬ cK o = 3 := of_decide_eq_false c3
   rw [if_neg (fun q => c3 q.1)]
   show TrQ _ _ _ _ _ _ _
   refine TrQ.go tblOK (drawOK tblOK) [] (by kernel_rfl) (Le.refl _ _) ?_
   exact ⟨_, _, _, Le.refl _ _, rfl, ⟨⟨rfl, rfl, rfl, trivial⟩, rfl, rfl, trivial⟩, trivial, rfl⟩
end Go.Proofs.YteoamepgonpdlaaGreat
/-!
  The program's chain and the document's: one call.
-/
namespace Go.Proofs.YteoamepgonpdlaaGreat
set_option linter.unusedVariables false
set_option linter.unusedSimpArgs false
set_option maxRecDepth 10000
open Go.RowKit Go.Proofs
/-! ### rows of disks -/
theorem gt_mem {l : List Rdk} {y : List UInt8} : y ∈ l.map (fun e => dN e) ↔ ∃ e, gtR l y = some e := by
 induction l with
 | nil => constructor
          · intro h; cases h
          · rintro ⟨e, h⟩; cases h
 | cons p l ih =>
   rw [List.map_cons, List.mem_cons, gtR]
   by_cases e : dN p = y
   · rw [if_pos e]
     exact ⟨fun _ => ⟨p, rfl⟩, fun _ => .inl e.symm⟩
   · rw [if_neg e, ← ih]
     constructor
     · rintro (h | h)
       · exact absurd h.symm e
       · exact h
     · exact .inr
theorem gt_app (a b : List Rdk) (y : List UInt8) : gtR (a ++ b) y = (gtR a y).or (gtR b y) := by
 induction a with
 | nil => rfl
 | cons p a ih =>
   rw [List.cons_append, gtR, gtR, ih]
   by_cases e : dN p = y
   · rw [if_pos e, if_pos e]; rfl
   · rw [if_neg e, if_neg e]
section
variable {n bits room : Nat} {L L' : List Dsk} {l l' : List Rdk}
theorem RC.of (h2 : n = 2 ^ bits) (hC : CS bits room L') (hr : (l'.map (fun e => dN e)).Pairwise (· < ·))
   (hy : ∀ y, (dk L' y = none ∧ gtR l' y = none) ∨ ∃ d e, dk L' y = some d ∧ gtR l' y = some e ∧ dB e = d.back ∧ RI n d.im (dIm e)) : RC n bits room L' l' where
 n2 := h2
 nm := rise_ext hr (nmsS_rise hC.nms) fun y => by
   rw [gt_mem, nmsS_dk]
   rcases hy y with ⟨e1, e2⟩ | ⟨d, e, e1, e2, _⟩
   · rw [e1, e2]
     exact ⟨fun ⟨_, h⟩ => (by cases h), fun ⟨_, h⟩ => (by cases h)⟩
   · rw [e1, e2]
     exact ⟨fun _ => ⟨d, rfl⟩, fun _ => ⟨e, rfl⟩⟩
 bk := fun y => by
   rcases hy y with ⟨e1, e2⟩ | ⟨d, e, e1, e2, e3, _⟩
   · rw [e1, e2]; rfl
   · rw [e1, e2]; exact congrArg some e3
 ri := fun y d e hd he => by
   rcases hy y with ⟨e1, e2⟩ | ⟨d2, e2, e3, e4, _, e5⟩
   · rw [hd] at e1; cases e1
   · rw [hd] at e3
     rw [he] at e4
     injection e3 with e3
     injection e4 with e4
     subst e3 e4
     exact e5
theorem RC.rise (h : RC n bits room L l) (hC : CS bits room L) : (l.map (fun e => dN e)).Pairwise (· < ·) := by
 rw [h.nm]; exact nmsS_rise hC.nms
theorem RC.both (h : RC n bits room L l) (y : List UInt8) : (dk L y = none ∧ gtR l y = none) ∨ ∃ d e, dk L y = some d ∧ gtR l y = some e ∧ dB e = d.back ∧ RI n d.im (dIm e) := by
 rcases h.bk.get y with e | ⟨d, e, e1, e2, e3⟩
 · exact .inl e
 · exact .inr ⟨d, e, e1, e2, e3, h.ri y d e e1 e2⟩
theorem RC.ix (h : RC n bits room L l) {x : List UInt8} : (0 ≤ fdI l x ↔ (dk L x).isSome = true) ∧ (fdI l x < 0 ↔ dk L x = none) := by
 rcases h.both x with ⟨e1, e2⟩ | ⟨d, e, e1, e2, _⟩
 · rw [fdI_none e2, e1]
   exact ⟨⟨fun h => absurd h (by decide), fun h => by cases h⟩, fun _ => rfl, fun _ => by decide⟩
 · obtain ⟨i, _, e3, _⟩ := fdI_some e2
   rw [e3, e1]
   exact ⟨⟨fun _ => rfl, fun _ => by omega⟩, fun h => by omega, fun h => by cases h⟩
/-! ### one disk is another one -/
theorem st_names {x : List UInt8} {e e' : Rdk} (he : gtR l x = some e) (hn : dN e' = x) : (stR l x e').map (fun e => dN e) = l.map (fun e => dN e) := by
 obtain ⟨i, hi, e1, e2, e3⟩ := fdI_some he
 unfold stR
 rw [e1, Int.toNat_natCast, List.map_set]
 apply List.ext_getElem?
 intro j
 by_cases q : i = j
 · subst q
   rw [List.getElem?_set_self (by rw [List.length_map]; exact hi), List.getElem?_map, List.getElem?_eq_getElem hi, Option.map_some, e2, hn, e3]
 · rw [List.getElem?_set_ne q]
theorem gt_set : ∀ {l : List Rdk} {i : Nat} (hi : i < l.length) {e' : Rdk} (y : List UInt8), dN e' = dN l[i] → (l.map (fun e => dN e)).Nodup → gtR (l.set i e') y = if y = dN l[i] then some e' else gtR l y
 | [], i, hi, _, _, _, _ => absurd hi (Nat.not_lt_zero _)
 | p :: l, 0, _, e', y, hn, _ => by
   show gtR (e' :: l) y = if y = dN p then some e' else gtR (p :: l) y
   have hn : dN e' = dN p := hn
   rw [gtR, gtR, hn]
   by_cases q : dN p = y
   · rw [if_pos q, if_pos q.symm]
   · rw [if_neg q, if_neg (Ne.symm q), if_neg q]
 | p :: l, i + 1, hi, e', y, hn, hd => by
   have hi : i < l.length := Nat.lt_of_succ_lt_succ hi
   obtain ⟨d1, d2⟩ := List.nodup_cons.1 hd
   have ih := gt_set hi (e' := e') y hn d2
   show gtR (p :: l.set i e') y = if y = dN l[i] then some e' else gtR (p :: l) y
   rw [gtR, gtR, ih]
   by_cases q : dN p = y
   · rw [if_pos q, if_pos q]
     by_cases q2 : y = dN l[i]
     · exfalso
       exact d1 (List.mem_map.2 ⟨l[i], List.getElem_mem hi, (q.trans q2).symm⟩)
     · rw [if_neg q2]
   · rw [if_neg q, if_neg q]
theorem RC.nodup (h : RC n bits room L l) (hC : CS bits room L) : (l.map (fun e => dN e)).Nodup := (h.rise hC).imp fun hlt e => by subst e; exact List.lt_irrefl _ hlt
theorem RC.gtst (h : RC n bits room L l) (hC : CS bits room L) {x : List UInt8} {e e' : Rdk} (he : gtR l x = some e) (hn : dN e' = x) (y : List UInt8) : gtR (stR l x e') y = if y = x then some e' else gtR l y := by
 obtain ⟨i, hi, e1, e2, e3⟩ := fdI_some he
 unfold stR
 rw [e1, Int.toNat_natCast, gt_set hi y (by rw [e2, e3, hn]) (h.nodup hC), e2, e3]
theorem RC.st (h : RC n bits room L l) (hC : CS bits room L) (hC' : CS bits room L') {x : List UInt8} {d d' : Dsk} {e e' : Rdk} (hd : dk L x = some d) (he : gtR l x = some e) (hn : dN e' = x) (hk : ∀ y, dk L' y = if y = x then some d' else dk L y) (hb : dB e' = d'.back) (hi : RI n d'.im (dIm e')) : RC n bits room L' (stR l x e') := by
 refine RC.of h.n2 hC' (by rw [st_names he hn]; exact h.rise hC) fun y => ?_
 rw [h.gtst hC he hn, hk]
 by_cases q : y = x
 · rw [if_pos q, if_pos q]
   exact .inr ⟨d', e', rfl, rfl, hb, hi⟩
 · rw [if_neg q, if_neg q]
   exact h.both y
theorem st_mem {x : List UInt8} {e' e2 : Rdk} (h : e2 ∈ stR l x e') : e2 ∈ l ∨ e2 = e' := List.mem_or_eq_of_mem_set h
/-! ### add -/
theorem ptR_eq (l : List Rdk) (d : Rdk) : ∃ j, j ≤ l.length ∧ ptR l d = l.take j ++ [d] ++ l.drop j ∧ (∀ (i : Nat) (hi : i < l.length), i < j → ¬ dN d < dN l[i]) ∧ (∀ (hj : j < l.length), dN d < dN l[j]) := by
 have key : ∀ k, k ≤ l.length → ((ptS l d k).2 = false ∧ (ptS l d k).1 = l.take k ∧ ∀ (i : Nat) (hi : i < l.length), i < k → ¬ dN d < dN l[i]) ∨
     ((ptS l d k).2 = true ∧ ∃ (j : Nat) (hj : j < l.length), j < k ∧ (ptS l d k).1 = l.take j ++ [d] ++ (l.take k).drop j ∧ (∀ (i : Nat) (hi : i < l.length), i < j → ¬ dN d < dN l[i]) ∧ dN d < dN l[j]) := fun k => by
   induction k with
   | zero => intro _; exact .inl ⟨rfl, rfl, fun i _ h => absurd h (Nat.not_lt_zero _)⟩
   | succ k ih =>
     intro hk
     have hk1 : k < l.length := hk
     have e : ptS l d (k + 1) = if (ptS l d k).2 = false ∧ dN d < dN l[k] then ((ptS l d k).1 ++ [d] ++ [l[k]], true) else ((ptS l d k).1 ++ [l[k]], (ptS l d k).2) := by
       rw [ptS, List.getElem?_eq_getElem hk1]
     rcases ih (by omega) with ⟨i1, i2, i3⟩ | ⟨i1, j, hj, i2, i3, i4, i5⟩
     · by_cases q : dN d < dN l[k]
       · rw [if_pos ⟨i1, q⟩] at e
         right
         rw [e]
         refine ⟨rfl, k, hk1, Nat.lt_succ_self _, ?_, i3, q⟩
         show (ptS l d k).1 ++ [d] ++ [l[k]] = _
         rw [i2, List.take_succ_eq_append_getElem hk1, List.drop_append_of_le_length (by rw [List.length_take]; omega), List.drop_of_length_le (by rw [List.length_take]; omega)]
         rfl
       · rw [if_neg (fun w => q w.2)] at e
         left
         rw [e]
         refine ⟨i1, ?_, fun i hi hik => ?_⟩
         · show (ptS l d k).1 ++ [l[k]] = _
           rw [i2, List.take_succ_eq_append_getElem hk1]
         · rcases Nat.lt_or_ge i k with h | h
           · exact i3 i hi h
           · have : i = k := by omega
             subst this
             exact q
     · rw [if_neg (fun w => absurd (i1.symm.trans w.1) (by decide))] at e
       right
       rw [e]
       refine ⟨i1, j, hj, by omega, ?_, i4, i5⟩
       show (ptS l d k).1 ++ [l[k]] = _
       rw [i3, List.take_succ_eq_append_getElem hk1, List.drop_append_of_le_length (by rw [List.length_take]; omega), List.append_assoc]
 unfold ptR
 rcases key _ (Nat.le_refl _) with ⟨i1, i2, i3⟩ | ⟨i1, j, hj, _, i3, i4, i5⟩
 · rw [if_neg (by rw [i1]; decide), i2]
   exact ⟨l.length, Nat.le_refl _, by rw [List.drop_length, List.append_nil], i3, fun h => absurd h (Nat.lt_irrefl _)⟩
 · rw [if_pos i1, i3]
   refine ⟨j, Nat.le_of_lt hj, by rw [List.take_length], i4, fun _ => i5⟩
theorem lt_of_not {a b : List UInt8} (h : ¬ a < b) (hne : b ≠ a) : b < a := by
 rcases List.le_iff_lt_or_eq.1 (List.not_lt.1 h) with h | h
 · exact h
 · exact absurd h hne
theorem ptR_rise {l : List Rdk} {d : Rdk} (hr : (l.map (fun e => dN e)).Pairwise (· < ·)) (hn : gtR l (dN d) = none) : ((ptR l d).map (fun e => dN e)).Pairwise (· < ·) := by
 obtain ⟨j, hj, e, h1, h2⟩ := ptR_eq l d
 have hne : ∀ e, e ∈ l → dN e ≠ dN d := fun e he q => by
   obtain ⟨w, hw⟩ := gt_mem.1 (List.mem_map.2 ⟨e, he, q⟩)
   rw [hn] at hw
   cases hw
 rw [e, List.map_append, List.map_append]
 have hs : l.take j ++ l.drop j = l := List.take_append_drop ..
 have hr2 := hr
 rw [← hs, List.map_append, List.pairwise_append] at hr2
 obtain ⟨r1, r2, r3⟩ := hr2
 have before : ∀ a, a ∈ (l.take j).map (fun e => dN e) → a < dN d := fun a ha => by
   obtain ⟨w, hw, rfl⟩ := List.mem_map.1 ha
   obtain ⟨i, hi, rfl⟩ := List.getElem_of_mem hw
   rw [List.length_take] at hi
   have hi2 : i < l.length := by omega
   have ew : (l.take j)[i]'(by rw [List.length_take]; omega) = l[i] := List.getElem_take
   rw [ew]
   exact lt_of_not (h1 i hi2 (by omega)) (hne _ (List.getElem_mem hi2))
 have after : ∀ b, b ∈ (l.drop j).map (fun e => dN e) → dN d < b := fun b hb => by
   obtain ⟨w, hw, rfl⟩ := List.mem_map.1 hb
   have hjl : j < l.length := by
     rcases Nat.lt_or_ge j l.length with h | h
     · exact h
     · rw [List.drop_of_length_le h] at hw; cases hw
   rw [List.drop_eq_getElem_cons hjl] at hw r2
   rcases List.mem_cons.1 hw with q | q
   · rw [q]; exact h2 hjl
   · rw [List.map_cons] at r2
     exact List.lt_trans (h2 hjl) ((List.pairwise_cons.1 r2).1 _ (List.mem_map.2 ⟨w, q, rfl⟩))
 rw [List.pairwise_append, List.pairwise_append]
 refine ⟨⟨r1, List.pairwise_singleton _ _, fun a ha b hb => ?_⟩, r2, fun a ha b hb => ?_⟩
 · rw [List.map_cons, List.map_nil, List.mem_singleton] at hb
   rw [hb]; exact before a ha
 · rcases List.mem_append.1 ha with ha | ha
   · exact r3 a ha b hb
   · rw [List.map_cons, List.map_nil, List.mem_singleton] at ha
     rw [ha]; exact after b hb
theorem gt_pt {l : List Rdk} {d : Rdk} (hn : gtR l (dN d) = none) (y : List UInt8) : gtR (ptR l d) y = if y = dN d then some d else gtR l y := by
 obtain ⟨j, _, e, _, _⟩ := ptR_eq l d
 have hs : l.take j ++ l.drop j = l := List.take_append_drop ..
 have hl : ∀ z, gtR l z = (gtR (l.take j) z).or (gtR (l.drop j) z) := fun z => by rw [← gt_app, hs]
 rw [e, gt_app, gt_app, hl y]
 show ((gtR (l.take j) y).or (if dN d = y then some d else none)).or (gtR (l.drop j) y) = _
 by_cases q : y = dN d
 · subst q
   rw [hl] at hn
   rw [if_pos rfl, if_pos rfl]
   cases e1 : gtR (l.take j) (dN d) with
   | none => rfl
   | some w => rw [e1] at hn; cases hn
 · rw [if_neg q, if_neg (Ne.symm q)]
   cases gtR (l.take j) y <;> rfl
theorem RI.new {bits size room : Int} (h : newMay bits size room = true) : RI (2 ^ bits.toNat) (iNew bits.toNat size.toNat room.toNat) (newM bits size room) := by
 obtain ⟨⟨a1, a2⟩, ⟨a3, a4⟩, a5, a6⟩ := newMay_get h
 have hM := newM_ok h
 have e : newM bits size room = mkM ((2 ^ bits.toNat : Nat) : Int) room (List.replicate size.toNat (mkCe 0 0)) [] [] := by unfold newM; rw [h]
 rw [e] at hM ⊢
 have k0 : ∀ c, kdM (mkM ((2 ^ bits.toNat : Nat) : Int) room (List.replicate size.toNat (mkCe 0 0)) [] []) c = 0 := fun c => by
   unfold kdM
   show ceK ((List.replicate size.toNat (mkCe 0 0)).getD c (mkCe 0 0)) = 0
   rw [List.getD_eq_getElem?_getD, List.getElem?_replicate]
   split <;> rfl
 refine ⟨iNew_ok (by omega) (by omega) (by omega), hM, rfl, ?_, ?_, fun c hc => ?_, fun c hc hk => ?_, fun c d hc hd hk _ _ => ?_⟩
 · show (List.replicate _ _).length = (List.replicate _ _).length
   rw [List.length_replicate, List.length_replicate]
 · show room = ((List.replicate room.toNat (0 : Int)).length : Nat)
   rw [List.length_replicate]
   omega
 · rw [k0]
   show (0 : Int) = ((List.replicate size.toNat s0).getD c s0).1
   rw [List.getD_eq_getElem?_getD, List.getElem?_replicate]
   split <;> rfl
 · rw [k0] at hk; exact absurd hk (by decide)
 · rw [k0] at hk; exact absurd hk (by decide)
theorem pt_mem {d e : Rdk} (h : e ∈ ptR l d) : e ∈ l ∨ e = d := by
 obtain ⟨j, _, q, _, _⟩ := ptR_eq l d
 rw [q] at h
 rcases List.mem_append.1 h with h | h
 · rcases List.mem_append.1 h with h | h
   · exact .inl (List.mem_of_mem_take h)
   · exact .inr (List.mem_singleton.1 h)
 · exact .inl (List.mem_of_mem_drop h)
theorem RC.add (h : RC n bits room L l) (hC : CS bits room L) (nm : List UInt8) (size : Int) (ot : List UInt8) (p : Nat × Nat) (hC' : CS bits room (adC bits room L nm size ot p).L) :
   (adR bits room l nm size ot).2 = (adC bits room L nm size ot p).e ∧ RC n bits room (adC bits room L nm size ot p).L (adR bits room l nm size ot).1 ∧ ∀ e, e ∈ (adR bits room l nm size ot).1 → e ∈ l ∨ mD (dIm e) = [] := by
 obtain ⟨x1, x2⟩ := h.ix (x := nm)
 obtain ⟨y1, y2⟩ := h.ix (x := ot)
 unfold adC at hC' ⊢
 unfold adR
 by_cases c1 : newMay bits size room = false
 · rw [if_pos c1, if_pos (by rw [c1, Bool.and_false])]
   exact ⟨rfl, h, fun e he => .inl he⟩
 have c1t : newMay bits size room = true := by simpa using c1
 rw [if_neg c1]
 by_cases c2 : nameOK nm = false
 · rw [if_pos c2, if_pos (by rw [c2, Bool.false_and])]
   exact ⟨rfl, h, fun e he => .inl he⟩
 have c2t : nameOK nm = true := by simpa using c2
 rw [if_neg c2]
 have gA : ¬ (nameOK nm && newMay bits size room) = false := by rw [c1t, c2t]; decide
 rw [if_neg gA] at hC' ⊢
 by_cases c3 : 0 ≤ fdI l nm
 · rw [if_pos c3, if_pos (.inl (x1.1 c3))]
   exact ⟨rfl, h, fun e he => .inl he⟩
 rw [if_neg c3]
 have g3 : dk L nm = none := x2.1 (by omega)
 by_cases c4 : 16 ≤ l.length
 · rw [if_pos c4, if_pos (.inr (by rw [← h.len]; exact c4))]
   exact ⟨rfl, h, fun e he => .inl he⟩
 rw [if_neg c4]
 have gB : ¬ ((dk L nm).isSome = true ∨ 16 ≤ L.length) := by
   rw [g3, ← h.len]
   rintro (q | q)
   · cases q
   · exact c4 q
 rw [if_neg gB] at hC' ⊢
 by_cases c5 : ot ≠ [] ∧ fdI l ot < 0
 · rw [if_pos c5, if_pos (by rw [decide_eq_false c5.1, y2.1 c5.2]; rfl)]
   exact ⟨rfl, h, fun e he => .inl he⟩
 rw [if_neg c5]
 have g5 : ¬ (decide (ot = []) || (dk L ot).isSome) = false := fun q => by
   simp only [Bool.or_eq_false_iff, decide_eq_false_iff_not] at q
   refine c5 ⟨q.1, y2.2 ?_⟩
   cases e : dk L ot with
   | none => rfl
   | some d => rw [e] at q; cases q.2
 rw [if_neg g5] at hC' ⊢
 rw [h.dp hC ot]
 by_cases c6 : ot ≠ [] ∧ 8 ≤ dpt L ot
 · rw [if_pos c6, if_pos ⟨c6.1, by omega⟩]
   exact ⟨rfl, h, fun e he => .inl he⟩
 rw [if_neg c6]
 have gD : ¬ (ot ≠ [] ∧ 8 < dpt L ot + 1) := fun q => c6 ⟨q.1, by omega⟩
 rw [if_neg gD] at hC' ⊢
 have gn : gtR l (dN (mkDk nm ot (newM bits size room))) = none := h.no g3
 refine ⟨rfl, RC.of h.n2 hC' (ptR_rise (h.rise hC) gn) fun y => ?_, fun e he => ?_⟩
 · rw [gt_pt gn, dk_add]
   show (_ ∧ (if y = nm then _ else _) = none) ∨ _
   by_cases q : y = nm
   · subst q
     right
     refine ⟨_, _, by rw [g3, if_pos rfl]; rfl, if_pos rfl, rfl, ?_⟩
     have := RI.new c1t
     rw [Int.toNat_natCast, Int.toNat_natCast, ← h.n2] at this
     exact this
   · rw [if_neg (Ne.symm q)]
     have e0 : (dk L y).or none = dk L y := by cases dk L y <;> rfl
     rw [e0]
     rcases h.both y with ⟨e1, e2⟩ | ⟨d, e, e1, e2, e3, e4⟩
     · exact .inl ⟨e1, by rw [if_neg q]; exact e2⟩
     · exact .inr ⟨d, e, e1, by rw [if_neg q]; exact e2, e3, e4⟩
 · rcases pt_mem he with he | he
   · exact .inl he
   · right
     subst he
     show mD (newM bits size room) = []
     unfold newM
     rw [c1t]
/-! ### remove -/
theorem dk_ldel_self {nm : List UInt8} : ∀ {L : List Dsk}, (L.map (·.nm)).Nodup → dk (ldel L nm) nm = none
 | [], _ => rfl
 | d :: L, h => by
   obtain ⟨h1, h2⟩ := List.nodup_cons.1 h
   unfold ldel
   by_cases e : d.nm = nm
   · rw [if_pos e]
     cases w : dk L nm with
     | none => rfl
     | some v =>
       exfalso
       obtain ⟨g1, g2⟩ := dk_get w
       exact h1 (List.mem_map.2 ⟨v, g1, g2.trans e.symm⟩)
   · rw [if_neg e, dk_cons, if_neg e]
     exact dk_ldel_self h2
theorem RC.rm (h : RC n bits room L l) (hC : CS bits room L) (nm : List UInt8) : (rmR l nm).x = [] ∧ (rmR l nm).e = (rmC L nm).e ∧ RC n bits room (rmC L nm).L (rmR l nm).l ∧ ∀ e, e ∈ (rmR l nm).l → e ∈ l := by
 have hC' := rmC_cs hC nm
 have hus := h.us hC nm
 unfold rmC at hC' ⊢
 unfold rmR
 rcases h.both nm with ⟨e1, e2⟩ | ⟨d, e, e1, e2, e3, e4⟩
 · rw [e1, e2]
   exact ⟨rfl, rfl, h, fun e he => he⟩
 rw [e1] at hC' ⊢
 rw [e2]
 simp only at hC' ⊢
 rw [hus]
 by_cases c : usrS L nm = []
 · rw [if_pos c] at hC' ⊢
   rw [if_neg (by rw [c]; decide)]
   obtain ⟨i, hi, i1, i2, i3⟩ := fdI_some e2
   have hii : (fdI l nm).toNat = i := by rw [i1]; exact Int.toNat_natCast i
   refine ⟨rfl, rfl, ?_, fun w hw => ?_⟩
   · show RC n bits room (ldel L nm) (l.take (fdI l nm).toNat ++ l.drop ((fdI l nm).toNat + 1))
     rw [hii]
     have hr := h.rise hC
     have hs : l.take i ++ (l[i] :: l.drop (i + 1)) = l := by rw [← List.drop_eq_getElem_cons hi]; exact List.take_append_drop ..
     have hl : ∀ z, gtR l z = (gtR (l.take i) z).or (if nm = z then some l[i] else gtR (l.drop (i + 1)) z) := fun z => by
       have : gtR l z = gtR (l.take i ++ (l[i] :: l.drop (i + 1))) z := by rw [hs]
       rw [this, gt_app, gtR, i2, i3]
     have hrr : ((l.take i ++ l.drop (i + 1)).map (fun e => dN e)).Pairwise (· < ·) := by
       have hsub : (l.take i ++ l.drop (i + 1)).Sublist (l.take i ++ (l[i] :: l.drop (i + 1))) := List.Sublist.append_left (List.sublist_cons_self ..) _
       rw [hs] at hsub
       exact hr.sublist (hsub.map _)
     refine RC.of h.n2 hC' hrr fun y => ?_
     rw [gt_app]
     by_cases q : y = nm
     · subst q
       left
       refine ⟨dk_ldel_self hC.nms, ?_⟩
       have hnd := h.nodup hC
       rw [← hs, List.map_append, List.map_cons] at hnd
       have hn1 : gtR (l.take i) y = none := by
         cases w : gtR (l.take i) y with
         | none => rfl
         | some v =>
           exfalso
           have hm := gt_mem.2 ⟨v, w⟩
           exact (List.nodup_append.1 hnd).2.2 _ hm _ (by rw [i2, i3]; exact List.mem_cons_self ..) rfl
       have hn2 : gtR (l.drop (i + 1)) y = none := by
         cases w : gtR (l.drop (i + 1)) y with
         | none => rfl
         | some v =>
           exfalso
           have hm := gt_mem.2 ⟨v, w⟩
           have := (List.nodup_cons.1 (List.nodup_append.1 hnd).2.1).1
           rw [i2, i3] at this
           exact this hm
       rw [hn1, hn2]
       rfl
     · rw [dk_ldel q]
       have := hl y
       rw [if_neg (Ne.symm q)] at this
       rw [← this]
       exact h.both y
   · rcases List.mem_append.1 hw with hw | hw
     · exact List.mem_of_mem_take hw
     · exact List.mem_of_mem_drop hw
 · rw [if_neg c] at hC' ⊢
   have : 0 < (usrS L nm).length := List.length_pos_iff.2 c
   rw [if_pos this]
   exact ⟨rfl, rfl, h, fun e he => he⟩
end
end Go.Proofs.YteoamepgonpdlaaGreat
/-!
  Pulls, in plain words: what is between, the next cluster, a step; what a step leaves.
-/
namespace Go.Proofs.YteoamepgonpdlaaGreat
set_option linter.unusedVariables false
set_option linter.unusedSimpArgs false
set_option maxRecDepth 10000
open Go.RowKit Go.Proofs
/-! ### room: each cluster that is in use stands in one place of the table -/
/-! ### one cluster is written -/
section
variable {bits room : Nat} {L : List Dsk} {nm : List UInt8}
end
/-! ### the way down -/
theorem bl_get {L : List Dsk} {nm : List UInt8} {k : Nat} (h : Dn L nm k) {i : Nat} (hi : i < k) : (bl L k nm)[i]? = some (downTo L (i + 1) nm) := by
 have h1 := bl_take h i hi
 have h2 := bl_len h
 rw [List.take_add_one] at h1
 have h3 := List.append_cancel_left h1
 rw [List.getElem?_eq_getElem (by omega)] at h3 ⊢
 injection h3 with h3
 rw [h3]
section
variable {bits room : Nat} {L : List Dsk} {nm : List UInt8}
end
/-! ### what is between stands between -/
section
variable {bits room : Nat} {L : List Dsk} {top base : List UInt8}
end
end Go.Proofs.YteoamepgonpdlaaGreat
/-!
  The program's chain and the document's: Rebase, what is done with an image; any call.
-/
namespace Go.Proofs.YteoamepgonpdlaaGreat
set_option linter.unusedVariables false
set_option linter.unusedSimpArgs false
set_option maxRecDepth 10000
open Go.RowKit Go.Proofs
section
variable {n bits room : Nat} {L L' : List Dsk} {l l' : List Rdk}
/-! ### rebase -/
theorem RC.loop (h : RC n bits room L l) (hC : CS bits room L) {nm ot : List UInt8} {e : Rdk} (he : gtR l nm = some e) (hot : ∃ d, dk L ot = some d) (hl : nm = ot ∨ nm ∈ bl L (dpt L ot) ot) : ∀ f, qdpF (stR l nm (mkDk (dN e) ot (dIm e))) f nm = f := by
 have hN := h.gtst hC he (e' := mkDk (dN e) ot (dIm e)) (show dN e = nm from gt_dN he)
 have hne : ot ≠ [] := known_ne hC hot
 obtain ⟨hD, _⟩ := hC.dep ot
 obtain ⟨J, hJ, eJ⟩ : ∃ J, J ≤ dpt L ot ∧ downTo L J ot = nm := by
   rcases hl with q | q
   · exact ⟨0, Nat.zero_le _, q.symm⟩
   · obtain ⟨i, hi, e⟩ := List.getElem_of_mem q
     rw [bl_len hD] at hi
     have := bl_get hD hi
     rw [List.getElem?_eq_getElem (by rw [bl_len hD]; exact hi), e] at this
     injection this with this
     exact ⟨i + 1, hi, this.symm⟩
 have key : ∀ f x, (∃ j, j ≤ J ∧ downTo L j ot = x) → qdpF (stR l nm (mkDk (dN e) ot (dIm e))) f x = f := fun f => by
   induction f with
   | zero => intro x _; rfl
   | succ f ih =>
     rintro x ⟨j, hj, ej⟩
     by_cases q : x = nm
     · have ho : onR (stR l nm (mkDk (dN e) ot (dIm e))) x = some ot := by
         unfold onR
         rw [hN, if_pos q]
         exact if_neg hne
       rw [qdpF, ho]
       simp only
       rw [ih ot ⟨0, Nat.zero_le _, rfl⟩]
     · have hjJ : j < J := by
         rcases Nat.lt_or_ge j J with w | w
         · exact w
         · exfalso
           have : j = J := by omega
           subst this
           exact q (ej.symm.trans eJ)
       obtain ⟨d1, hd1⟩ := down_known hC hD hot j (by omega)
       have hd1' := hd1
       rw [ej] at hd1
       obtain ⟨e1, g1, g2, _⟩ := h.get hd1
       have hnx : downTo L (j + 1) ot = d1.back := by rw [downTo_succ, hd1']
       have hkn := down_known hC hD hot (j + 1) (by omega)
       rw [hnx] at hkn
       have hb : d1.back ≠ [] := known_ne hC hkn
       have ho : onR (stR l nm (mkDk (dN e) ot (dIm e))) x = some d1.back := by
         unfold onR
         rw [hN, if_neg q, g1]
         simp only
         rw [if_neg (fun w => hb (g2.symm.trans w)), g2]
       rw [qdpF, ho]
       simp only
       rw [ih d1.back ⟨j + 1, by omega, hnx⟩]
 exact fun f => key f nm ⟨J, Nat.le_refl _, eJ⟩
theorem RC.rb (h : RC n bits room L l) (hC : CS bits room L) (nm ot : List UInt8) : (rbR l nm ot).2 = (rbC L nm ot).e ∧ RC n bits room (rbC L nm ot).L (rbR l nm ot).1 ∧ ∀ e, e ∈ (rbR l nm ot).1 → ∃ e0, e0 ∈ l ∧ dIm e = dIm e0 := by
 have hC' := rbC_cs hC nm ot
 obtain ⟨y1, y2⟩ := h.ix (x := ot)
 unfold rbC at hC' ⊢
 unfold rbR
 rcases h.both nm with ⟨e1, e2⟩ | ⟨d, e, e1, e2, e3, e4⟩
 · rw [e2, if_pos (.inl (by rw [e1]; rfl))]
   exact ⟨rfl, h, fun e he => ⟨e, he, rfl⟩⟩
 rw [e2]
 simp only
 by_cases c1 : ot ≠ [] ∧ fdI l ot < 0
 · rw [if_pos c1, if_pos (.inr (by rw [decide_eq_false c1.1, y2.1 c1.2]; rfl))]
   exact ⟨rfl, h, fun e he => ⟨e, he, rfl⟩⟩
 have hk : (decide (ot = []) || (dk L ot).isSome) = true := by
   by_cases q : ot = []
   · rw [decide_eq_true q]; rfl
   · cases w : dk L ot with
     | none => exact absurd ⟨q, y2.2 w⟩ c1
     | some v => rw [Option.isSome_some, Bool.or_true]
 have g1 : ¬ ((dk L nm).isSome = false ∨ (decide (ot = []) || (dk L ot).isSome) = false) := by
   rw [e1, hk]
   rintro (q | q) <;> cases q
 rw [if_neg c1]
 rw [if_neg g1] at hC' ⊢
 have hN := h.gtst hC e2 (e' := mkDk (dN e) ot (dIm e)) (show dN e = nm from gt_dN e2)
 by_cases c2 : nm = ot ∨ nm ∈ bl L (dpt L ot) ot
 · have hot : ∃ v, dk L ot = some v := by
     rcases c2 with q | q
     · rw [← q]; exact ⟨d, e1⟩
     · obtain ⟨hD, _⟩ := hC.dep ot
       cases w : dk L ot with
       | some v => exact ⟨v, rfl⟩
       | none =>
         exfalso
         have : dpt L ot = 0 := dn_det hD (.gone w)
         rw [this] at q
         cases q
   rw [if_pos c2, if_pos (show dqR _ nm = 99 from h.loop hC e2 hot c2 99)]
   exact ⟨rfl, h, fun e he => ⟨e, he, rfl⟩⟩
 rw [if_neg c2] at hC' ⊢
 have hd1 : nm ≠ ot := fun q => c2 (.inl q)
 have hd2 : nm ∉ bl L (dpt L ot) ot := fun q => c2 (.inr q)
 have hdl : ∀ y, dk (lset L nm ot) y = if y = nm then some { d with back := ot } else dk L y := fun y => by
   rw [dk_lset]
   by_cases q : y = nm
   · rw [if_pos q, q, e1]
     show some (rbD nm ot d) = _
     unfold rbD
     rw [if_pos (dk_get e1).2]
   · rw [if_neg q]
     cases w : dk L y with
     | none => rfl
     | some v =>
       show some (rbD nm ot v) = _
       rw [rbD_back_ne (by rw [(dk_get w).2]; exact q)]
 have hBK : BK (lset L nm ot) (stR l nm (mkDk (dN e) ot (dIm e))) := fun y => by
   rw [hN, hdl]
   by_cases q : y = nm
   · rw [if_pos q, if_pos q]; rfl
   · rw [if_neg q, if_neg q]; exact h.bk y
 have hdp : ∀ x, dqR (stR l nm (mkDk (dN e) ot (dIm e))) x = dpt (lset L nm ot) x := fun x => by
   obtain ⟨w1, w2⟩ := hC.depR hd1 hd2 x
   exact hBK.dp w1 99 (by omega)
 have hall : (stR l nm (mkDk (dN e) ot (dIm e))).all (fun x => decide (dqR (stR l nm (mkDk (dN e) ot (dIm e))) (dN x) ≤ 8)) = true ↔ ∀ x ∈ nmsS L, dpt (lset L nm ot) x ≤ 8 := by
   rw [List.all_eq_true]
   constructor
   · intro w x hx
     rw [← h.nm, ← st_names e2 (e' := mkDk (dN e) ot (dIm e)) (show dN e = nm from gt_dN e2)] at hx
     obtain ⟨v, hv, rfl⟩ := List.mem_map.1 hx
     have := of_decide_eq_true (w v hv)
     rw [hdp] at this
     exact this
   · intro w v hv
     have hx : dN v ∈ nmsS L := by
       rw [← h.nm, ← st_names e2 (e' := mkDk (dN e) ot (dIm e)) (show dN e = nm from gt_dN e2)]
       exact List.mem_map.2 ⟨v, hv, rfl⟩
     exact decide_eq_true (by rw [hdp]; exact w _ hx)
 rw [if_neg (show ¬ dqR _ nm = 99 by rw [hdp]; have := (hC.depR hd1 hd2 nm).2; omega)]
 by_cases c3 : ∀ x ∈ nmsS L, dpt (lset L nm ot) x ≤ 8
 · rw [if_pos c3] at hC' ⊢
   rw [if_pos (hall.2 c3)]
   refine ⟨rfl, h.st hC hC' e1 e2 (show dN e = nm from gt_dN e2) hdl rfl e4, fun v hv => ?_⟩
   rcases st_mem hv with hv | hv
   · exact ⟨v, hv, rfl⟩
   · exact ⟨e, gtR_mem e2, by rw [hv]⟩
 · rw [if_neg c3] at hC' ⊢
   rw [if_neg (fun q => c3 (hall.1 q))]
   exact ⟨rfl, h, fun e he => ⟨e, he, rfl⟩⟩
/-! ### with an image -/
theorem crdK_cut (hC : CS bits room L) {x : List UInt8} {d : Dsk} (hd : dk L x = some d) (a b N : Nat) (hN : a + b ≤ N) : crdK bits L x (dpt L x) a b = ((crdK bits L x (dpt L x) 0 N).take (16 * (a + b))).drop (16 * a) := by
 obtain ⟨hD, _⟩ := hC.dep x
 have hlen := fun j => crdK_len hC.toChOK hd hD 0 j
 have app : ∀ j, crdK bits L x (dpt L x) 0 (a + j) = crdK bits L x (dpt L x) 0 a ++ crdK bits L x (dpt L x) a j := fun j => by
   induction j with
   | zero => show _ = _ ++ []; rw [List.append_nil]; rfl
   | succ j ih =>
     show crdK bits L x (dpt L x) 0 (a + j) ++ crdP bits L x (dpt L x) (0 + (a + j)) = _ ++ (crdK bits L x (dpt L x) a j ++ crdP bits L x (dpt L x) (a + j))
     rw [ih, List.append_assoc, Nat.zero_add]
 have tk : ∀ j, (crdK bits L x (dpt L x) 0 (a + b + j)).take (16 * (a + b)) = crdK bits L x (dpt L x) 0 (a + b) := fun j => by
   induction j with
   | zero => rw [← hlen (a + b)]; exact List.take_length
   | succ j ih =>
     rw [show a + b + (j + 1) = (a + b + j) + 1 by omega, crdK, List.take_append_of_le_length (by rw [hlen]; omega), ih]
 have := tk (N - (a + b))
 rw [show a + b + (N - (a + b)) = N by omega] at this
 rw [this, app b, ← hlen a, List.drop_left]
theorem RC.sc (h : RC n bits room L l) (hC : CS bits room L) (nm : List UInt8) (q : Cq) (hq : qK q = 0 ∨ qK q = 1 ∨ qK q = 2 ∨ qK q = 3) (hd : ∀ e, e ∈ l → (mD (dIm e)).length + 256 ≤ 100000) :
   (scR n l nm q).x = (doQ bits L nm q).x ∧ (scR n l nm q).e = (doQ bits L nm q).e ∧ RC n bits room (doQ bits L nm q).L (scR n l nm q).l ∧ ∀ e, e ∈ (scR n l nm q).l → ∃ e0, e0 ∈ l ∧ (mD (dIm e)).length ≤ (mD (dIm e0)).length + 256 := by
 have hC' := doQ_cs hC nm q
 unfold scR
 rcases h.both nm with ⟨e1, e2⟩ | ⟨d, e, e1, e2, e3, e4⟩
 · rw [e2]
   simp only
   have hx : (doQ bits L nm q).x = [] ∧ (doQ bits L nm q).e = 140 ∧ (doQ bits L nm q).L = L := by
     unfold doQ
     rcases hq with c | c | c | c
     · rw [if_pos c]; unfold rdC; rw [e1]; exact ⟨rfl, rfl, rfl⟩
     · rw [if_neg (by omega), if_pos c]; unfold wrC; rw [e1]; exact ⟨rfl, rfl, rfl⟩
     · rw [if_neg (by omega), if_neg (by omega), if_pos c]; unfold zrC; rw [e1]; exact ⟨rfl, rfl, rfl⟩
     · rw [if_neg (by omega), if_neg (by omega), if_neg (by omega), if_pos c]; unfold dsC; rw [e1]; exact ⟨rfl, rfl, rfl⟩
   rw [hx.1, hx.2.1, hx.2.2]
   exact ⟨rfl, rfl, h, fun e he => ⟨e, he, by omega⟩⟩
 rw [e2]
 simp only
 have hde := hd e (gtR_mem e2)
 have hcl := e4.ok.cl
 have hins := fun a b => e4.insEq a b
 have hkeep : RC n bits room L (stR l nm (mkDk (dN e) (dB e) (dIm e))) := h.st hC hC e1 e2 (d' := d) (e' := mkDk (dN e) (dB e) (dIm e)) (show dN e = nm from gt_dN e2) (fun y => by
   by_cases w : y = nm
   · rw [if_pos w, w, e1]
   · rw [if_neg w]) e3 e4
 have hmem : ∀ m', (mD m').length ≤ (mD (dIm e)).length + 256 → ∀ v, v ∈ stR l nm (mkDk (dN e) (dB e) m') → ∃ e0, e0 ∈ l ∧ (mD (dIm v)).length ≤ (mD (dIm e0)).length + 256 := fun m' hm v hv => by
   rcases st_mem hv with hv | hv
   · exact ⟨v, hv, by omega⟩
   · exact ⟨e, gtR_mem e2, by rw [hv]; exact hm⟩
 have hnew : ∀ im' m', CS bits room (lim L nm im' none) → RI n im' m' → RC n bits room (lim L nm im' none) (stR l nm (mkDk (dN e) (dB e) m')) := fun im' m' hc hr => h.st hC hc e1 e2 (d' := { d with im := im', pin := none }) (show dN e = nm from gt_dN e2) (fun y => by
   by_cases w : y = nm
   · rw [if_pos w, w, dk_lim_self e1]
   · rw [if_neg w, dk_lim_ne w]) e3 hr
 have hbel : ∀ c, c < d.im.t.length → kdM (dIm e) c = 0 → (beR n l nm (mC (dIm e)).length)[c]? = some (belY bits L nm (dpt L nm) c) ∧ (belY bits L nm (dpt L nm) c).length = 16 * n := fun c hc hk => by
   refine ⟨?_, by rw [belY_len hC e1, h.n2]⟩
   unfold beR
   rw [List.getElem?_map, List.getElem?_range (by rw [e4.len]; exact hc), Option.map_some, h.cl hC ⟨d, e1⟩ c, cseen_hole e1]
   rintro ⟨_, w⟩
   rw [← e4.kd c hc] at w
   exact w hk
 have hwdl : ∀ a b bs bel zero k, k ≤ 256 → (mD (wTo n a b bs bel zero (dIm e) k)).length ≤ (mD (dIm e)).length + 256 := fun a b bs bel zero k hk => by
   have := wTo_dl n a b bs bel zero (dIm e) k
   omega
 unfold doQ at hC' ⊢
 by_cases c0 : qK q = 0
 · rw [if_pos c0, if_pos c0]
   unfold rdC
   rw [e1]
   simp only
   rw [hins]
   by_cases w : insE n (mC (dIm e)).length (qA q) (qL q) = 0
   · rw [if_pos w, if_pos w]
     obtain ⟨b1, b2, b3⟩ := insE_zero w
     refine ⟨?_, rfl, h, fun e he => ⟨e, he, by omega⟩⟩
     have ha := h.al hC ⟨d, e1⟩ (mC (dIm e)).length
     rw [crdK_cut hC e1 (qA q).toNat (qL q).toNat (n * (mC (dIm e)).length) (by omega), ha]
     show ((alTo n l nm (mC (dIm e)).length).take (16 * (qA q + qL q)).toNat).drop (16 * qA q).toNat = _
     rw [show (16 * (qA q + qL q)).toNat = 16 * ((qA q).toNat + (qL q).toNat) by omega, show (16 * qA q).toNat = 16 * (qA q).toNat by omega]
   · rw [if_neg w, if_neg w]
     exact ⟨rfl, rfl, h, fun e he => ⟨e, he, by omega⟩⟩
 rw [if_neg c0]
 rw [if_neg c0] at hC' ⊢
 by_cases c1 : qK q = 1
 · rw [if_pos c1] at hC' ⊢
   have ed : doM n (dIm e) q (beR n l nm (mC (dIm e)).length) = writeM n (dIm e) (qA q) (qB q) (beR n l nm (mC (dIm e)).length) false := if_pos c1
   rw [ed]
   unfold writeM
   unfold wrC at hC' ⊢
   rw [e1] at hC' ⊢
   simp only at hC' ⊢
   rw [hins] at hC' ⊢
   by_cases w1 : (qB q).length % 16 ≠ 0
   · rw [if_pos w1, if_pos w1]
     exact ⟨rfl, rfl, hkeep, hmem (dIm e) (Nat.le_add_right _ _)⟩
   rw [if_neg w1] at hC' ⊢
   rw [if_neg w1]
   by_cases w2 : insE n (mC (dIm e)).length (qA q) ((qB q).length / 16 : Nat) = 0
   · rw [if_neg (fun g => g w2)] at hC' ⊢
     rw [if_pos w2]
     have w2' := w2
     rw [← hins] at w2'
     have hpos := iIns_pos w2'
     have hall : (qA q).toNat + (qB q).length / 16 ≤ iall d.im := by
       have := insE_zero w2
       rw [e4.all]
       omega
     have hbl : (qB q).length = 16 * ((qB q).length / 16) := by omega
     have hnd := e4.need (a := (qA q).toNat) (l := (qB q).length / 16) hall
     rw [e4.free, hnd]
     unfold iwE iwS at *
     by_cases w3 : ndK d.im (qA q).toNat ((qB q).length / 16) (pcN (wid d.im) (qA q).toNat ((qB q).length / 16)) ≤ zeros d.im.l
     · have w4 : ¬ ((zeros d.im.l : Nat) : Int) < ((ndK d.im (qA q).toNat ((qB q).length / 16) (pcN (wid d.im) (qA q).toNat ((qB q).length / 16)) : Nat) : Int) := by omega
       rw [if_neg w4]
       rw [if_pos w3, if_pos w3] at hC'
       rw [if_pos w3, if_pos w3]
       exact ⟨rfl, rfl, hnew _ _ hC' (e4.wr hbl hall hbel hde w3), hmem _ (hwdl _ _ _ _ _ _ hcl)⟩
     · have w4 : ((zeros d.im.l : Nat) : Int) < ((ndK d.im (qA q).toNat ((qB q).length / 16) (pcN (wid d.im) (qA q).toNat ((qB q).length / 16)) : Nat) : Int) := by omega
       rw [if_pos w4]
       rw [if_neg w3, if_neg w3] at hC'
       rw [if_neg w3, if_neg w3]
       refine ⟨rfl, rfl, hnew _ _ hC' e4, hmem (dIm e) (Nat.le_add_right _ _)⟩
   · rw [if_pos w2]
     rw [if_neg w2]
     exact ⟨rfl, rfl, hkeep, hmem (dIm e) (Nat.le_add_right _ _)⟩
 rw [if_neg c1] at hC' ⊢
 by_cases c2 : qK q = 2
 · rw [if_pos c2] at hC' ⊢
   have ed : doM n (dIm e) q (beR n l nm (mC (dIm e)).length) = if insE n (mC (dIm e)).length (qA q) (qL q) = 0 then writeM n (dIm e) (qA q) (List.replicate (16 * qL q).toNat 0) (beR n l nm (mC (dIm e)).length) true else (dIm e, insE n (mC (dIm e)).length (qA q) (qL q)) := (if_neg c1).trans (if_pos c2)
   rw [ed]
   unfold zrC at hC' ⊢
   rw [e1] at hC' ⊢
   simp only at hC' ⊢
   rw [hins] at hC' ⊢
   by_cases w2 : insE n (mC (dIm e)).length (qA q) (qL q) = 0
   · rw [if_neg (fun g => g w2)] at hC' ⊢
     rw [if_pos w2]
     obtain ⟨b1, b2, b3⟩ := insE_zero w2
     have hall : (qA q).toNat + (qL q).toNat ≤ iall d.im := by rw [e4.all]; omega
     have er : (16 * qL q).toNat = 16 * (qL q).toNat := by omega
     unfold writeM
     rw [er, List.length_replicate, if_neg (by omega), show 16 * (qL q).toNat / 16 = (qL q).toNat by omega, show (((qL q).toNat : Nat) : Int) = qL q by omega, if_pos w2]
     have hnd := e4.zneed (a := (qA q).toNat) (l := (qL q).toNat) hall
     rw [e4.free, hnd]
     unfold izE izS at *
     by_cases w3 : zdK d.im (qA q).toNat (qL q).toNat (pcN (wid d.im) (qA q).toNat (qL q).toNat) ≤ zeros d.im.l
     · have w4 : ¬ ((zeros d.im.l : Nat) : Int) < ((zdK d.im (qA q).toNat (qL q).toNat (pcN (wid d.im) (qA q).toNat (qL q).toNat) : Nat) : Int) := by omega
       rw [if_neg w4]
       rw [if_pos w3, if_pos w3] at hC'
       rw [if_pos w3, if_pos w3]
       exact ⟨rfl, rfl, hnew _ _ hC' (e4.zr hall hbel hde w3), hmem _ (hwdl _ _ _ _ _ _ hcl)⟩
     · have w4 : ((zeros d.im.l : Nat) : Int) < ((zdK d.im (qA q).toNat (qL q).toNat (pcN (wid d.im) (qA q).toNat (qL q).toNat) : Nat) : Int) := by omega
       rw [if_pos w4]
       rw [if_neg w3, if_neg w3] at hC'
       rw [if_neg w3, if_neg w3]
       refine ⟨rfl, rfl, hnew _ _ hC' e4, hmem (dIm e) (Nat.le_add_right _ _)⟩
   · rw [if_pos w2]
     rw [if_neg w2]
     exact ⟨rfl, rfl, hkeep, hmem (dIm e) (Nat.le_add_right _ _)⟩
 rw [if_neg c2] at hC' ⊢
 have c3 : qK q = 3 := by omega
 rw [if_pos c3] at hC' ⊢
 have ed : doM n (dIm e) q (beR n l nm (mC (dIm e)).length) = discM n (dIm e) (qA q) (qL q) := (if_neg c1).trans (if_neg c2)
 rw [ed]
 unfold discM
 unfold dsC at hC' ⊢
 rw [e1] at hC' ⊢
 simp only at hC' ⊢
 rw [hins] at hC' ⊢
 by_cases w2 : insE n (mC (dIm e)).length (qA q) (qL q) = 0
 · rw [if_neg (fun g => g w2)] at hC' ⊢
   rw [if_pos w2]
   obtain ⟨b1, b2, b3⟩ := insE_zero w2
   have hall : (qA q).toNat + (qL q).toNat ≤ iall d.im := by rw [e4.all]; omega
   refine ⟨rfl, rfl, hnew _ _ hC' (e4.ds hall), hmem _ ?_⟩
   have : ∀ k, mD (dcTo n (qA q).toNat (qL q).toNat (dIm e) k) = mD (dIm e) := fun k => by
     induction k with
     | zero => rfl
     | succ k ih =>
       unfold dcTo
       split
       · exact ih
       · exact ih
   rw [this]
   omega
 · rw [if_pos w2]
   rw [if_neg w2]
   exact ⟨rfl, rfl, hkeep, hmem (dIm e) (Nat.le_add_right _ _)⟩
/-! ### any call -/
theorem RC.step (h : RC n bits room L l) (hC : CS bits room L) (o : Cop) (p : Nat × Nat) (hC' : CS bits room (doC bits room L o p).L) (hd : ∀ e, e ∈ l → (mD (dIm e)).length + 256 ≤ 100000) :
   (doR14 n bits room l o).x = (doC bits room L o p).x ∧ (doR14 n bits room l o).e = (doC bits room L o p).e ∧ RC n bits room (doC bits room L o p).L (doR14 n bits room l o).l ∧ ∀ e, e ∈ (doR14 n bits room l o).l → ∃ k, (mD (dIm e)).length ≤ k + 256 ∧ (k = 0 ∨ ∃ e0, e0 ∈ l ∧ k = (mD (dIm e0)).length) := by
 have same : ∀ e, e ∈ l → ∃ k, (mD (dIm e)).length ≤ k + 256 ∧ (k = 0 ∨ ∃ e0, e0 ∈ l ∧ k = (mD (dIm e0)).length) := fun e he => ⟨_, Nat.le_add_right _ _, .inr ⟨e, he, rfl⟩⟩
 unfold doC at hC' ⊢
 unfold doR14
 by_cases c0 : cK o = 0
 · rw [if_pos c0] at hC' ⊢
   rw [if_pos c0]
   obtain ⟨g1, g2, g3⟩ := h.add hC (cNm o) (cSz o) (cOt o) p hC'
   refine ⟨rfl, g1, g2, fun e he => ?_⟩
   rcases g3 e he with w | w
   · exact same e w
   · exact ⟨0, by rw [w]; exact Nat.zero_le _, .inl rfl⟩
 rw [if_neg c0]
 rw [if_neg c0] at hC' ⊢
 by_cases c1 : cK o = 1
 · rw [if_pos c1] at hC' ⊢
   rw [if_pos c1]
   obtain ⟨g1, g2, g3, g4⟩ := h.rm hC (cNm o)
   exact ⟨g1, g2, g3, fun e he => same e (g4 e he)⟩
 rw [if_neg c1]
 rw [if_neg c1] at hC' ⊢
 by_cases c2 : cK o = 2
 · rw [if_pos c2] at hC' ⊢
   rw [if_pos c2]
   obtain ⟨g1, g2, g3⟩ := h.rb hC (cNm o) (cOt o)
   refine ⟨rfl, g1, g2, fun e he => ?_⟩
   obtain ⟨e0, w1, w2⟩ := g3 e he
   exact ⟨_, by rw [w2]; exact Nat.le_add_right _ _, .inr ⟨e0, w1, rfl⟩⟩
 rw [if_neg c2]
 rw [if_neg c2] at hC' ⊢
 by_cases c3 : cK o = 3
 · rw [if_pos c3] at hC' ⊢
   by_cases c4 : 0 ≤ qK (cQ o) ∧ qK (cQ o) ≤ 3
   · rw [if_pos ⟨c3, c4⟩]
     obtain ⟨g1, g2, g3, g4⟩ := h.sc hC (cNm o) (cQ o) (by omega) hd
     refine ⟨g1, g2, g3, fun e he => ?_⟩
     obtain ⟨e0, w1, w2⟩ := g4 e he
     exact ⟨_, w2, .inr ⟨e0, w1, rfl⟩⟩
   · rw [if_neg (fun w => c4 w.2)]
     have e : doQ bits L (cNm o) (cQ o) = ⟨[], 0, L⟩ := by
       unfold doQ
       rw [if_neg (by omega), if_neg (by omega), if_neg (by omega), if_neg (by omega)]
     rw [e]
     exact ⟨rfl, rfl, h, same⟩
 · rw [if_neg c3, if_neg (fun w => c3 w.1)]
   exact ⟨rfl, rfl, h, same⟩
end
end Go.Proofs.YteoamepgonpdlaaGreat
/-!
  Independence, with short lists of who comes ahead.
-/
namespace Go.Proofs.YteoamepgonpdlaaGreat
set_option linter.unusedVariables false
set_option linter.unusedSimpArgs false
open Go.RowKit
/-! ### independence, with short lists of who comes ahead -/
def uni : List Nat → List Nat → List Nat
 | [], r => r
 | x :: l, r => match r.contains x with
   | true => uni l r
   | false => uni l (x :: r)
theorem uni_mem {a : Nat} : ∀ {l r : List Nat}, a ∈ uni l r → a ∈ l ∨ a ∈ r
 | [], r, h => .inr h
 | x :: l, r, h => by
   unfold uni at h
   split at h
   · rcases uni_mem h with h | h
     · exact .inl (List.mem_cons_of_mem _ h)
     · exact .inr h
   · rcases uni_mem h with h | h
     · exact .inl (List.mem_cons_of_mem _ h)
     · rcases List.mem_cons.1 h with rfl | h
       · exact .inl (List.mem_cons_self ..)
       · exact .inr h
def ancs1 (acc : List (List Nat)) : List Nat → List Nat
 | [] => []
 | d :: l => uni (d :: acc.getD d []) (ancs1 acc l)
theorem ancs1_mem {acc : List (List Nat)} {a : Nat} : ∀ {l : List Nat}, a ∈ ancs1 acc l → a ∈ l ∨ ∃ d ∈ l, a ∈ acc.getD d []
 | [], h => by cases h
 | d :: l, h => by
   rcases uni_mem h with h | h
   · rcases List.mem_cons.1 h with rfl | h
     · exact .inl (List.mem_cons_self ..)
     · exact .inr ⟨d, List.mem_cons_self .., h⟩
   · rcases ancs1_mem h with h | ⟨e, he, h⟩
     · exact .inl (List.mem_cons_of_mem _ h)
     · exact .inr ⟨e, List.mem_cons_of_mem _ he, h⟩
def ancsU : List Oper → List (List Nat) → List (List Nat)
 | [], acc => acc
 | o :: l, acc => ancsU l (acc ++ [ancs1 acc (depsOf o)])
theorem ancsU_sub : ∀ (l : List Oper) (acc acc' : List (List Nat)), acc.length = acc'.length → (∀ j a, a ∈ acc.getD j [] → a ∈ acc'.getD j []) → ∀ j a, a ∈ (ancsU l acc).getD j [] → a ∈ (ancs l acc').getD j []
 | [], acc, acc', _, h => h
 | o :: l, acc, acc', hl, h => by
   unfold ancsU ancs
   refine ancsU_sub l _ _ (by simp [hl]) ?_
   intro j a ha
   rw [List.getD_eq_getElem?_getD] at ha ⊢
   rcases Nat.lt_trichotomy j acc.length with hlt | heq | hgt
   · rw [List.getElem?_append_left hlt, ← List.getD_eq_getElem?_getD] at ha
     rw [List.getElem?_append_left (hl ▸ hlt), ← List.getD_eq_getElem?_getD]
     exact h j a ha
   · subst heq
     rw [List.getElem?_append_right (Nat.le_refl _)] at ha
     rw [List.getElem?_append_right (Nat.le_of_eq hl.symm)]
     simp only [Nat.sub_self, List.getElem?_cons_zero, Option.getD_some] at ha
     simp only [hl, Nat.sub_self, List.getElem?_cons_zero, Option.getD_some, List.mem_append, List.mem_flatMap]
     rcases ancs1_mem ha with ha | ⟨d, hd, ha⟩
     · exact .inl ha
     · exact .inr ⟨d, hd, h d a ha⟩
   · rw [List.getElem?_eq_none (by simp; omega)] at ha
     simp at ha
theorem pairs_sub {all : List Oper} {an an' : List (List Nat)} (h : ∀ j a, a ∈ an.getD j [] → a ∈ an'.getD j []) : ∀ l : List (Oper × Ent × Nat), pairsOK all an l = true → pairsOK all an' l = true
 | [], _ => rfl
 | (o, n, i) :: l, hp => by
   simp only [pairsOK, Bool.and_eq_true] at hp ⊢
   refine ⟨List.all_eq_true.2 fun x hx => ?_, pairs_sub h l hp.2⟩
   have := List.all_eq_true.1 hp.1 x hx
   obtain ⟨p, m, j⟩ := x
   simp only [Bool.or_eq_true, Bool.and_eq_true, List.contains_iff_mem] at this ⊢
   exact this.imp (fun g => ⟨h _ _ g.1, g.2⟩) id
def indepU (K : KL) (B : BL) (ops : List Oper) (log : List Ent) : Bool :=
 let es := log.reverse
 (ops.zipIdx.all fun (o, i) => (depsOf o).all fun d => Nat.blt d i) && (es.all fun n => n.e.nw.all fun c => noK c K && noB c B) && pairsOK ops (ancsU ops []) ((ops.zip es).zipIdx.map fun ((o, n), i) => (o, n, i))
theorem indep_of {K : KL} {B : BL} {ops : List Oper} {log : List Ent} (h : indepU K B ops log = true) : indep K B ops log = true := by
 simp only [indepU, Bool.and_eq_true] at h
 simp only [indep, Bool.and_eq_true]
 exact ⟨h.1, pairs_sub (ancsU_sub ops [] [] rfl fun _ _ h => h) _ h.2⟩
end Go.Proofs.YteoamepgonpdlaaGreat
/-!
  Images: Bits.
-/
namespace Go.Proofs.YteoamepgonpdlaaGreat
set_option linter.unusedVariables false
set_option linter.unusedSimpArgs false
set_option maxRecDepth 10000
open Go.RowKit Go.Proofs
theorem ibits_fn (s : ImS) : Fn Tryz.prog 65 [vP 1001] (imB s) [] (vI (s.bits : Nat)) (imB s) := by
 refine Fn.of tblOK [] _ _ _ _ _ Tryz.func65 rfl rfl (by kernel_rfl) (by kernel_rfl) rfl (drawOK tblOK) rfl ?_
 exact ⟨_, _, _, Le.refl _ _, rfl, rfl, ⟨rfl, rfl, rfl, rfl, trivial⟩, rfl⟩
end Go.Proofs.YteoamepgonpdlaaGreat
/-!
  ChainAll: SameExtents, stands.
-/
namespace Go.Proofs.YteoamepgonpdlaaGreat
set_option linter.unusedVariables false
set_option linter.unusedSimpArgs false
set_option maxRecDepth 10000
open Go.RowKit Go.Proofs
theorem opOK_qneq {P : Program} {ids : List Nat} {K : KL} {B : BL} {o : Oper} {T T2 : TypeId} {x y : Operand} {lx ly : List S1} {m D : Nat} (ho : o.op = .binOp .neq T x y T2) (hg : P.eqGuardType P.depth T = false) (hk : P.keyTypeAt m T = true) (hm : m ≤ 10000)
   (hx : opv K x = .c (.agg lx)) (hy : opv K y = .c (.agg ly)) (hpl : (plainL lx && plainL ly) = true) (fx : (Value.agg (List.toArray (valsL lx))).formed P T = true) (fy : (Value.agg (List.toArray (valsL ly))).formed P T = true)
   (kx : P.keyLits D T (valsL lx) = some (litsL lx)) (ky : P.keyLits D T (valsL ly) = some (litsL ly)) {r : Bool} (hr : r = true ↔ litsL lx = litsL ly) (N : Nat) : OpOK P N ids o K B (.c (.one (.d (.bool (!r))))) ⟨[], [], []⟩ := by
 have m1 : x ∈ o.op.operands := by rw [ho]; simp [Op.operands]
 have m2 : y ∈ o.op.operands := by rw [ho]; simp [Op.operands]
 simp only [Bool.and_eq_true] at hpl
 refine OpOK.val fun K' B' g1 g2 C ρ F a w hM hS => ?_
 obtain ⟨vs, e1, h1⟩ := hS.ev ((g1 x m1).trans hx)
 obtain ⟨us, e2, h2⟩ := hS.ev ((g1 y m2).trans hy)
 have h1 := denL_vals hpl.1 h1
 have h2 := denL_vals hpl.2 h2
 subst h1 h2
 obtain ⟨q, hq, hiff⟩ := run_equalIn_deep (P := P) (10000 - m) m T hk w D D (.agg (List.toArray (valsL lx))) (.agg (List.toArray (valsL ly))) (litsL lx) (litsL ly) fx fy (by simpa [Value.cells] using kx) (by simpa [Value.cells] using ky)
 rw [show 10000 - m + m = 10000 by omega] at hq
 have hqr : q = r := by
   cases q <;> cases r
   · rfl
   · exact absurd (hiff.2 (hr.1 rfl)) (by simp)
   · exact absurd (hr.2 (hiff.1 rfl)) (by simp)
   · rfl
 subst hqr
 refine ⟨.bool (!q), ?_, rfl⟩
 simp only [execOp, ho, e1, e2, Sem.run_bind, run_eqGuard_agg w .neq T x y _ _ hg, Result.andThen_ok, run_neq_struct, hq, Sem.run_pure]
@[reducible] def qinI (n : Int) : Prop := -9223372036854775808 ≤ n ∧ n ≤ 9223372036854775807
theorem qkl_i (d : Nat) {n : Int} (h : qinI n) : Tryz.prog.keyLits (d + 1) 3 [.int .i64 n] = some [.int .i64 n] := by
 unfold Program.keyLits
 simp only [Tryz.underlying3]
 have hw : (Lit.int .i64 n).wf = true := by
   simp only [Lit.wf, Bool.and_eq_true, decide_eq_true_eq]
   have h1 : IntKind.min .i64 = -9223372036854775808 := by decide
   have h2 : IntKind.max .i64 = 9223372036854775807 := by decide
   rw [h1, h2]
   exact h
 simp [hw]
theorem qkl_ex (d : Nat) {x : Xt} (h1 : qinI x.1) (h2 : qinI x.2.1) (h3 : qinI x.2.2) : Tryz.prog.keyLits (d + 2) 114 (valsL [.d (.int .i64 x.1), .d (.int .i64 x.2.1), .d (.int .i64 x.2.2)]) = some (litsL [.d (.int .i64 x.1), .d (.int .i64 x.2.1), .d (.int .i64 x.2.2)]) := by
 have c1 : Tryz.prog.cellsOf 114 = 3 := by kernel_rfl
 have c2 : Tryz.prog.cellsOf 3 = 1 := by kernel_rfl
 have k1 := qkl_i d h1
 have k2 := qkl_i d h2
 have k3 := qkl_i d h3
 unfold Program.keyLits
 simp only [Tryz.underlying114, c1]
 simp [valsL, valS, c2, k1, k2, k3, litsL, litS]
theorem sameX_fn (l : List Xt) (hl : l.length ≤ 100000) (hin : ∀ x, x ∈ l → qinI x.1 ∧ qinI x.2.1 ∧ qinI x.2.2) : Fn Tryz.prog 30 [vL uEx l, vL uEx l] [] [] (vB true) [] := by
 refine Fn.of tblOK [] _ _ _ _ _ Tryz.func30 rfl rfl (by kernel_rfl) (by kernel_rfl) rfl (drawOK tblOK) rfl ?_
 refine ⟨fun h => absurd (show (!decide (((l.length : Nat) : Int) = ((l.length : Nat) : Int))) = true from h) (by simp), fun _ => ?_⟩
 show TrQ _ _ _ _ _ _ _
 refine TrQ.loop tblOK (drawOK tblOK) [] (by kernel_rfl) (X := Nat) (fun i => [(0, vL uEx l), (1, vL uEx l), (5, vI (i : Nat))]) (fun _ => []) (fun i => i ≤ l.length) (fun i => l.length - i) 0 (Nat.zero_le _) ?_ ?_
 · exact Le.sub ⟨rfl, rfl, rfl, trivial⟩ trivial
 intro i hi
 have hi : i ≤ l.length := hi
 refine ⟨fun h => ?_, fun h => ?_⟩
 · have hi1 : i < l.length := by
     have h : decide (((i : Nat) : Int) < ((l.length : Nat) : Int)) = true := h
     have := of_decide_eq_true h
     omega
   have hg : lget l i = some l[i] := List.getElem?_eq_getElem hi1
   have hm := hin _ (List.getElem_mem hi1)
   generalize l[i] = x at *
   have hk := qkl_ex 3 hm.1 hm.2.1 hm.2.2
   have m1 : (0 : Int) ≤ ((i : Nat) : Int) := by omega
   have m2 : -9223372036854775808 ≤ ((i : Nat) : Int) + 1 ∧ ((i : Nat) : Int) + 1 ≤ 9223372036854775807 := by omega
   refine ⟨m1, x, hg, m1, x, hg, ?_⟩
   refine ⟨_, _, fun N => opOK_qneq (m := 5) (D := 5) (r := true) (lx := [.d (.int .i64 x.1), .d (.int .i64 x.2.1), .d (.int .i64 x.2.2)]) (ly := [.d (.int .i64 x.1), .d (.int .i64 x.2.1), .d (.int .i64 x.2.2)]) rfl (by kernel_rfl) (by kernel_rfl) (by decide) rfl rfl rfl (by rfl) (by rfl) hk hk ⟨fun _ => rfl, fun _ => rfl⟩ N, rfl, ?_⟩
   refine ⟨rfl, ?_⟩
   refine ⟨fun h => absurd h (by decide), fun _ => ?_⟩
   exact ⟨m2, i + 1, hi1, by show l.length - (i + 1) < l.length - i; omega, Le.sub ⟨rfl, rfl, rfl, trivial⟩ trivial⟩
 · exact ⟨_, _, _, Le.refl _ _, rfl, rfl, trivial, rfl⟩
theorem exOf_in {ks : List Int} (hk : ks.length ≤ 1000) (hb : ∀ k, k ∈ ks → qinI k) : ∀ x, x ∈ exOf ks → qinI x.1 ∧ qinI x.2.1 ∧ qinI x.2.2 := fun x hx => by
 obtain ⟨h1, h2, h3, h4⟩ := (exOf_ok ks).each x hx
 have h5 := h4 x.1.toNat (by omega) (by omega)
 have h6 := hb _ (List.mem_of_getElem? h5)
 refine ⟨?_, ?_, h6⟩
 · unfold qinI; omega
 · unfold qinI; omega
section
variable {n bits room : Nat} {L : List Dsk} {l : List Rdk}
@[reducible] def sdK (N : List (List UInt8)) (i : Nat) : KL := [(0, vP 1001), (3, vP 3), (25, vL .str N), (26, vI (N.length : Nat)), (27, vI (i : Nat))]
@[reducible] def sdB (bits room : Nat) (L : List Dsk) (l : List Rdk) : BL := chB bits room L ++ [(3, .cells (rcL bits room l))]
set_option maxHeartbeats 4000000 in
theorem stands_fn (h : RC n bits room L l) (hC : CS bits room L) (hd : ∀ e, e ∈ l → (mD (dIm e)).length + 256 ≤ 100000) : Fn Tryz.prog 12 [vP 1001, rcV bits room l] (chB bits room L) [] (vB true) (chB bits room L) := by
 have hl := h.len
 have hL16 := hC.len
 have hcok := h.cok hC
 have hnl : (l.map fun e => dN e).length = l.length := List.length_map ..
 refine Fn.of tblOK [11,13,15] _ _ _ _ _ Tryz.func12 rfl rfl (by kernel_rfl) (by kernel_rfl) rfl (drawOK tblOK) rfl ?_
 refine ⟨rfl, ?_⟩
 refine ⟨_, _, _, _, cnames_fn bits room l (by omega), trivial, rfl, ?_⟩
 refine ⟨_, _, _, _, chnames_fn hC, ⟨rfl, rfl, rfl, rfl, trivial⟩, rfl, ?_⟩
 refine ⟨_, _, _, _, sameT_spec (nmsS L) (l.map fun e => dN e) (by rw [nmsS_len]; omega), trivial, rfl, ?_⟩
 refine ⟨fun hx => ?_, fun _ => ?_⟩
 · exfalso
   have hx : (!decide (nmsS L = l.map fun e => dN e)) = true := hx
   rw [decide_eq_true h.nm.symm] at hx
   exact absurd hx (by decide)
 show TrQ _ _ _ _ _ _ _
 refine TrQ.loop tblOK (drawOK tblOK) [11,13,15] (by kernel_rfl) (X := Nat) (fun i => sdK (l.map fun e => dN e) i) (fun _ => sdB bits room L l) (fun i => i ≤ (l.map fun e => dN e).length) (fun i => (l.map fun e => dN e).length - i) 0 (Nat.zero_le _) ?_ ?_
 · exact Le.sub ⟨rfl, rfl, rfl, rfl, rfl, trivial⟩ ⟨rfl, rfl, rfl, rfl, rfl, trivial⟩
 intro i hi
 refine ⟨fun hc => ?_, fun _ => ?_⟩
 · have hc : ((i : Nat) : Int) < (((l.map fun e => dN e).length : Nat) : Int) := of_decide_eq_true hc
   have hi1 : i < (l.map fun e => dN e).length := by omega
   have hmem : (l.map fun e => dN e)[i] ∈ nmsS L := by rw [← h.nm]; exact List.getElem_mem hi1
   have hget := lgAt (n := i) hi1
   obtain ⟨d, hdk⟩ := nmsS_mem hmem
   generalize (l.map fun e => dN e)[i] = nm at *
   obtain ⟨e, g1, g2, g3⟩ := h.get hdk
   obtain ⟨j, hj, e1, e2, e3⟩ := fdI_some g1
   have hgl : lget l (fdI l nm).toNat = some e := by rw [show (fdI l nm).toNat = j by omega, ← e2]; exact lgAt (n := j) hj
   refine ⟨by omega, nm, hget, ?_⟩
   refine ⟨_, _, _, _, cfind_fn bits room l nm (by omega), trivial, rfl, ?_⟩
   refine ⟨by omega, e, hgl, ?_⟩
   refine ⟨rfl, ?_⟩
   refine ⟨rfl, ?_⟩
   have hLm := hC.toChN.M (dk_get hdk).1
   refine ⟨_, _, _, _, image_fn _ _ L hC.toChN nm d hdk, ⟨rfl, rfl, rfl, rfl, trivial⟩, rfl, ?_⟩
   have hia : iall d.im = n * (mC (dIm e)).length := g3.all
   have htl := g3.im.tl
   have hb3 := g3.im.bits
   have hnp := g3.pow
   have n8 := g3.ok.n8
   have hN : n * (mC (dIm e)).length ≤ 8 * 256 := Nat.mul_le_mul n8 g3.ok.cl
   have esh : ((d.im.t.length : Nat) : Int) * ((2 ^ ((d.im.bits : Nat) : Int).toNat : Nat) : Int) = ((n * (mC (dIm e)).length : Nat) : Int) := by rw [Int.toNat_natCast, ← hnp, ← Int.natCast_mul, g3.len, Nat.mul_comm]
   have m1 : (0 : Int) ≤ ((d.im.t.length : Nat) : Int) ∧ (0 : Int) ≤ ((d.im.bits : Nat) : Int) ∧ ((d.im.bits : Nat) : Int) ≤ 64 := by omega
   have m2 : (-9223372036854775808 : Int) ≤ ((d.im.t.length : Nat) : Int) * ((2 ^ ((d.im.bits : Nat) : Int).toNat : Nat) : Int) ∧ ((d.im.t.length : Nat) : Int) * ((2 ^ ((d.im.bits : Nat) : Int).toNat : Nat) : Int) ≤ 9223372036854775807 := by rw [esh]; omega
   have hcr := chread_fn hC nm 0 ((n * (mC (dIm e)).length : Nat) : Int)
   rw [rdC_ok hC hdk (n := n * (mC (dIm e)).length) (by rw [hia]; exact Nat.le_refl _), h.al hC ⟨d, hdk⟩, ← esh] at hcr
   have hdp := chdepth_fn hC nm
   rw [show dpC L nm = (((dpt L nm : Nat) : Int), 0) by unfold dpC; rw [hdk]] at hdp
   have hbk := chback_fn hC nm
   rw [show bkC L nm = (d.back, 0) by unfold bkC; rw [hdk]] at hbk
   have hrw := chrow_fn hC nm
   rw [show rwC bits L nm = (exOf (awyL bits L nm d.im.t.length), 0) by unfold rwC; rw [hdk]] at hrw
   refine ⟨fun _ _ => ?_, fun hx => by cases hx⟩
   refine ⟨_, _, _, _, imFn (isize_fn d.im) hLm rfl rfl rfl rfl, ⟨rfl, trivial⟩, rfl, ?_⟩
   refine ⟨rfl, fun hx => ?_, fun _ => ?_⟩
   · exfalso
     have hx : (!decide (((d.im.t.length : Nat) : Int) = (((mC (dIm e)).length : Nat) : Int))) = true := hx
     rw [decide_eq_true (by rw [g3.len])] at hx
     exact absurd hx (by decide)
   show TrQ _ _ _ _ _ _ _
   refine TrQ.go tblOK (drawOK tblOK) [13,15] (by kernel_rfl) (Le.sub (K' := [(7, vS nm), (8, vP 8), (9, vAd d.am), (0, vP 1001), (3, vP 3), (25, vL .str (l.map fun e => dN e)), (26, vI ((l.map fun e => dN e).length : Nat)), (27, vI (i : Nat))]) (B' := (8, .cells (dkL e)) :: sdB bits room L l) ⟨rfl, rfl, rfl, rfl, rfl, rfl, rfl, rfl, trivial⟩ ⟨rfl, rfl, rfl, rfl, rfl, rfl, trivial⟩) ?_
   refine ⟨_, _, _, _, imFn (isize_fn d.im) hLm rfl rfl rfl rfl, ⟨rfl, trivial⟩, rfl, ?_⟩
   refine ⟨_, _, _, _, imFn (ibits_fn d.im) hLm rfl rfl rfl rfl, ⟨rfl, trivial⟩, rfl, ?_⟩
   refine ⟨m1, m2, ?_⟩
   refine ⟨_, _, _, _, hcr, ⟨rfl, rfl, rfl, rfl, trivial⟩, rfl, ?_⟩
   refine ⟨_, _, _, _, hdp, ⟨rfl, rfl, rfl, rfl, trivial⟩, rfl, ?_⟩
   show TrQ _ _ _ _ _ _ _
   refine TrQ.go tblOK (drawOK tblOK) [15] (by kernel_rfl) (Le.sub (K' := [(7, vS nm), (8, vP 8), (10, vL .u8 (alTo n l nm (mC (dIm e)).length)), (11, vI 0), (12, vI ((dpt L nm : Nat) : Int)), (13, vI 0), (0, vP 1001), (3, vP 3), (25, vL .str (l.map fun e => dN e)), (26, vI ((l.map fun e => dN e).length : Nat)), (27, vI (i : Nat))]) (B' := (8, .cells (dkL e)) :: sdB bits room L l) ⟨rfl, rfl, rfl, rfl, rfl, rfl, rfl, rfl, rfl, rfl, rfl, trivial⟩ ⟨rfl, rfl, rfl, rfl, rfl, rfl, trivial⟩) ?_
   refine ⟨_, _, _, _, hbk, ⟨rfl, rfl, rfl, rfl, trivial⟩, rfl, ?_⟩
   refine ⟨_, _, _, _, hrw, ⟨rfl, rfl, rfl, rfl, trivial⟩, rfl, ?_⟩
   show TrQ _ _ _ _ _ _ _
   refine TrQ.go tblOK (drawOK tblOK) [] (by kernel_rfl) (Le.sub (K' := [(7, vS nm), (8, vP 8), (10, vL .u8 (alTo n l nm (mC (dIm e)).length)), (11, vI 0), (12, vI ((dpt L nm : Nat) : Int)), (13, vI 0), (14, vS d.back), (15, vI 0), (16, vL uEx (exOf (awyL bits L nm d.im.t.length))), (17, vI 0), (0, vP 1001), (3, vP 3), (25, vL .str (l.map fun e => dN e)), (26, vI ((l.map fun e => dN e).length : Nat)), (27, vI (i : Nat))]) (B' := (8, .cells (dkL e)) :: sdB bits room L l) ⟨rfl, rfl, rfl, rfl, rfl, rfl, rfl, rfl, rfl, rfl, rfl, rfl, rfl, rfl, rfl, trivial⟩ ⟨rfl, rfl, rfl, rfl, rfl, rfl, trivial⟩) ?_
   refine ⟨fun hx => absurd (show (!decide ((0 : Int) = 0)) = true from hx) (by decide), fun _ => ?_⟩
   refine ⟨_, _, _, _, call_fn hcok bits room nm g1, trivial, rfl, ?_⟩
   refine ⟨fun hx => absurd (show (!decide (alTo n l nm (mC (dIm e)).length = alTo n l nm (mC (dIm e)).length)) = true from hx) (by rw [decide_eq_true rfl]; decide), fun _ => ?_⟩
   refine ⟨fun hx => absurd (show (!decide ((0 : Int) = 0)) = true from hx) (by decide), fun _ => ?_⟩
   refine ⟨_, _, _, _, cdepth_fn bits room l nm (by omega), trivial, rfl, ?_⟩
   refine ⟨fun hx => absurd (show (!decide (((dpt L nm : Nat) : Int) = ((dqR l nm : Nat) : Int))) = true from hx) (by rw [h.dp hC, decide_eq_true rfl]; decide), fun _ => ?_⟩
   refine ⟨fun hx => absurd (show (!decide ((0 : Int) = 0)) = true from hx) (by decide), fun _ => ?_⟩
   refine ⟨fun hx => absurd (show (!decide (d.back = dB e)) = true from hx) (by rw [decide_eq_true g2.symm]; decide), fun _ => ?_⟩
   refine ⟨fun hx => absurd (show (!decide ((0 : Int) = 0)) = true from hx) (by decide), fun _ => ?_⟩
   refine ⟨_, _, _, _, crow_fn hcok bits room nm g1, trivial, rfl, ?_⟩
   have hkd : kdTo l nm (mC (dIm e)).length = awyL bits L nm d.im.t.length := by rw [h.kd hC ⟨d, hdk⟩, g3.len]
   rw [hkd]
   have hwl := awyL_len bits L nm d.im.t.length
   have hin := exOf_in (ks := awyL bits L nm d.im.t.length) (by rw [hwl]; omega) fun k hk => by
     unfold awyL at hk
     obtain ⟨c, _, rfl⟩ := List.mem_map.1 hk
     have := awy_le hC hdk (c := c)
     have := (hC.dep nm).2
     unfold qinI
     omega
   refine ⟨_, _, _, _, sameX_fn (exOf (awyL bits L nm d.im.t.length)) (by have := (exOf_ok (awyL bits L nm d.im.t.length)).len; omega) hin, trivial, rfl, ?_⟩
   refine ⟨fun hx => absurd hx (by decide), fun _ => ?_⟩
   refine ⟨_, _, _, _, chusers_fn hC nm, ⟨rfl, rfl, rfl, rfl, trivial⟩, rfl, ?_⟩
   refine ⟨_, _, _, _, cusers_fn bits room l nm (by omega), trivial, rfl, ?_⟩
   rw [h.us hC nm]
   refine ⟨_, _, _, _, sameT_spec (usrS L nm) (usrS L nm) (by have := usR_len l nm; rw [h.us hC nm] at this; omega), trivial, rfl, ?_⟩
   rw [decide_eq_true rfl]
   refine ⟨indep_of (by kernel_rfl), fun hx => absurd hx (by decide), fun _ => ?_⟩
   exact ⟨by omega, i + 1, hi1, by show (l.map fun e => dN e).length - (i + 1) < (l.map fun e => dN e).length - i; omega, Le.sub ⟨rfl, rfl, rfl, rfl, rfl, trivial⟩ ⟨rfl, rfl, rfl, rfl, rfl, trivial⟩⟩
 · exact ⟨_, _, _, Le.refl _ _, rfl, rfl, ⟨rfl, rfl, rfl, rfl, trivial⟩, rfl⟩
end
end Go.Proofs.YteoamepgonpdlaaGreat
