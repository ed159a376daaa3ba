/-
Part 14 of the proof that stands in YteoamepgonpdlaaGreatPaRow, with what it needs from the parts ahead; the parts of this text: Qa, Qb, Qc, Qd, Rw, Rp, Se, Qj.
-/
import Derived.Test.YteoamepgonpdlaaGreatPa13
/-!
  The document's image (layer 12): its values; Refs, Free, Inside, own, inside, cluster, laid, set, put.
-/
namespace Go.Proofs.YteoamepgonpdlaaGreat
set_option linter.unusedVariables false
set_option linter.unusedSimpArgs false
set_option maxRecDepth 10000
open Go.RowKit Go.Proofs
@[reducible] def uCe : U := .pr uI uI
@[reducible] def uSn : U := .pr .str (.sl uCe)
@[reducible] def uIm : U := .pr uI (.pr uI (.pr (.sl uCe) (.pr (.sl uSn) (.sl .str))))
abbrev Cell := El uCe
abbrev Rim := El uIm
@[reducible] def ceK (c : Cell) : Int := c.1
@[reducible] def ceI (c : Cell) : Int := c.2
@[reducible] def mkCe (k i : Int) : Cell := (k, i)
@[reducible] def mN (m : Rim) : Int := m.1
@[reducible] def mR (m : Rim) : Int := m.2.1
@[reducible] def mC (m : Rim) : List Cell := m.2.2.1
@[reducible] def mS (m : Rim) : List (El uSn) := m.2.2.2.1
@[reducible] def mD (m : Rim) : List (List UInt8) := m.2.2.2.2
@[reducible] def mkM (n r : Int) (cs : List Cell) (ss : List (El uSn)) (ds : List (List UInt8)) : Rim := (n, r, cs, ss, ds)
@[reducible] def imL (m : Rim) : List S1 := [.d (.int .i64 (mN m)), .d (.int .i64 (mR m)), .d (.lst uCe (mC m)), .d (.lst uSn (mS m)), .d (.lst .str (mD m))]
@[reducible] def imV (m : Rim) : SV := .c (.agg (imL m))
/-- An image of the document: of clusters of n sectors, without snapshots. -/
structure MOK (n : Nat) (m : Rim) : Prop where
 nm : mN m = (n : Int)
 n1 : 1 ≤ n
 n8 : n ≤ 8
 cl : (mC m).length ≤ 256
 sn : mS m = []
 dl : (mD m).length ≤ 100000
 wd : ∀ x, x ∈ mD m → x.length = 16 * n
 ix : ∀ c, c ∈ mC m → ceK c = 1 → ∃ i : Nat, ceI c = (i : Int) ∧ i < (mD m).length
 r0 : 0 ≤ mR m
 r1 : mR m ≤ 512
/-- How many cells have a number. -/
def refsC (cs : List Cell) (id : Int) : Nat := (cs.filter fun c => decide (ceK c = 1) && decide (ceI c = id)).length
theorem refsC_succ {cs : List Cell} {k : Nat} (h : k < cs.length) (id : Int) : refsC (cs.take (k + 1)) id = refsC (cs.take k) id + (if ceK cs[k] = 1 ∧ ceI cs[k] = id then 1 else 0) := by
 unfold refsC
 rw [List.take_succ_eq_append_getElem h, List.filter_append, List.length_append]
 congr 1
 by_cases h1 : ceK cs[k] = 1 <;> by_cases h2 : ceI cs[k] = id <;> simp [h1, h2]
theorem refsC_le (cs : List Cell) (id : Int) : refsC cs id ≤ cs.length := List.length_filter_le _ _
@[reducible] def rfK (id : Int) (n k : Nat) : KL := [(1, vI id), (2, vP 2), (5, vI (n : Nat)), (6, vI (k : Nat))]
theorem mrefs_fn (m : Rim) (id : Int) (hc : (mC m).length ≤ 1000000) (hs : mS m = []) : Fn Tryz.prog 150 [imV m, vI id] [] [] (vI (refsC (mC m) id : Nat)) [] := by
 refine Fn.of tblOK [] _ _ _ _ _ Tryz.func150 rfl rfl (by kernel_rfl) (by kernel_rfl) rfl (drawOK tblOK) rfl ?_
 refine ⟨rfl, ?_⟩
 show TrQ _ _ _ _ _ _ _
 refine TrQ.loop tblOK (drawOK tblOK) [] (by kernel_rfl) (X := Nat) (fun k => rfK id (refsC ((mC m).take k) id) k) (fun _ => [(2, .cells (imL m))]) (fun k => k ≤ (mC m).length) (fun k => (mC m).length - k) 0 (Nat.zero_le _) ?_ ?_
 · exact Le.sub ⟨rfl, rfl, rfl, rfl, trivial⟩ ⟨rfl, trivial⟩
 intro k hk
 have hr := refsC_le ((mC m).take k) id
 rw [List.length_take] at hr
 refine ⟨fun h => ?_, fun h => ?_⟩
 · have h : decide ((k : Int) < ((mC m).length : Nat)) = true := h
   have hk1 : k < (mC m).length := by simpa using h
   have hsn := refsC_succ hk1 id
   refine ⟨by omega, (mC m)[k], lgAt (n := k) hk1, ?_⟩
   refine ⟨fun h2 => ?_, fun h2 => ?_⟩
   · have h2 : ceK (mC m)[k] = 1 := of_decide_eq_true h2
     refine ⟨by omega, (mC m)[k], lgAt (n := k) hk1, ?_⟩
     refine ⟨fun h3 => ?_, fun h3 => ?_⟩
     · have h3 : ceI (mC m)[k] = id := of_decide_eq_true h3
       rw [if_pos ⟨h2, h3⟩] at hsn
       refine ⟨by omega, ?_⟩
       refine ⟨by omega, k + 1, by omega, by omega, Le.sub ⟨rfl, rfl, ?_, rfl, trivial⟩ ⟨rfl, trivial⟩⟩
       show ((refsC ((mC m).take k) id : Nat) : Int) + 1 = ((refsC ((mC m).take (k + 1)) id : Nat) : Int)
       omega
     · have h3 : ¬ ceI (mC m)[k] = id := of_decide_eq_false h3
       rw [if_neg (fun e => h3 e.2)] at hsn
       refine ⟨by omega, k + 1, by omega, by omega, Le.sub ⟨rfl, rfl, ?_, rfl, trivial⟩ ⟨rfl, trivial⟩⟩
       show ((refsC ((mC m).take k) id : Nat) : Int) = ((refsC ((mC m).take (k + 1)) id : Nat) : Int)
       omega
   · have h2 : ¬ ceK (mC m)[k] = 1 := of_decide_eq_false h2
     rw [if_neg (fun e => h2 e.1)] at hsn
     refine ⟨by omega, k + 1, by omega, by omega, Le.sub ⟨rfl, rfl, ?_, rfl, trivial⟩ ⟨rfl, trivial⟩⟩
     show ((refsC ((mC m).take k) id : Nat) : Int) = ((refsC ((mC m).take (k + 1)) id : Nat) : Int)
     omega
 · have h : decide ((k : Int) < ((mC m).length : Nat)) = false := h
   have hk1 : k = (mC m).length := by simp at h; omega
   subst hk1
   show TrQ _ _ _ _ _ _ _
   refine TrQ.loop tblOK (drawOK tblOK) [] (by kernel_rfl) (X := Unit) (fun _ => [(5, vI (refsC (mC m) id : Nat)), (2, vP 2), (7, vI 0)]) (fun _ => [(2, .cells (imL m))]) (fun _ => True) (fun _ => 0) () trivial ?_ ?_
   · exact Le.sub ⟨congrArg (fun l : List Cell => ((refsC l id : Nat) : Int)) List.take_length, rfl, rfl, trivial⟩ ⟨rfl, trivial⟩
   rintro ⟨⟩ -
   refine ⟨fun h => ?_, fun _ => ?_⟩
   · exfalso
     have h : decide ((0 : Int) < ((mS m).length : Nat)) = true := h
     rw [hs] at h
     exact absurd h (by decide)
   · exact ⟨_, _, _, Le.refl _ _, rfl, rfl, trivial, rfl⟩
/-- How many of the first k numbers stand somewhere. -/
def usedN (m : Rim) : Nat → Nat
 | 0 => 0
 | k + 1 => usedN m k + (if refsC (mC m) (k : Nat) > 0 then 1 else 0)
theorem usedN_le (m : Rim) : ∀ k, usedN m k ≤ k
 | 0 => Nat.le_refl _
 | k + 1 => by
   have := usedN_le m k
   unfold usedN
   split <;> omega
def freeM (m : Rim) : Int := mR m - (usedN m (mD m).length : Nat)
@[reducible] def qfrK (n : Int) (k : Nat) : KL := [(1, vP 1), (3, vI n), (4, vI (k : Nat))]
theorem mfree_fn {n : Nat} {m : Rim} (h : MOK n m) : Fn Tryz.prog 140 [imV m] [] [] (vI (freeM m)) [] := by
 have hc := h.cl
 have hd := h.dl
 have r0 := h.r0
 have r1 := h.r1
 refine Fn.of tblOK [] _ _ _ _ _ Tryz.func140 rfl rfl (by kernel_rfl) (by kernel_rfl) rfl (drawOK tblOK) rfl ?_
 refine ⟨rfl, ?_⟩
 show TrQ _ _ _ _ _ _ _
 refine TrQ.loop tblOK (drawOK tblOK) [] (by kernel_rfl) (X := Nat) (fun k => qfrK (mR m - (usedN m k : Nat)) k) (fun _ => [(1, .cells (imL m))]) (fun k => k ≤ (mD m).length) (fun k => (mD m).length - k) 0 (Nat.zero_le _) ?_ ?_
 · refine Le.sub ⟨rfl, ?_, rfl, trivial⟩ ⟨rfl, trivial⟩
   show mR m = mR m - ((0 : Nat) : Int)
   omega
 intro k hk
 have hu := usedN_le m k
 refine ⟨fun h1 => ?_, fun h1 => ?_⟩
 · have h1 : decide ((k : Int) < ((mD m).length : Nat)) = true := h1
   have hk1 : k < (mD m).length := by simpa using h1
   refine ⟨_, _, _, _, mrefs_fn m (k : Nat) (by omega) h.sn, trivial, rfl, ?_⟩
   have e : usedN m (k + 1) = usedN m k + (if refsC (mC m) (k : Nat) > 0 then 1 else 0) := rfl
   refine ⟨fun h2 => ?_, fun h2 => ?_⟩
   · have h2 : (0 : Int) < (refsC (mC m) (k : Nat) : Nat) := of_decide_eq_true h2
     rw [if_pos (by omega)] at e
     refine ⟨by omega, ?_⟩
     refine ⟨by omega, k + 1, by omega, by omega, Le.sub ⟨rfl, ?_, rfl, trivial⟩ ⟨rfl, trivial⟩⟩
     show mR m - (usedN m k : Nat) - 1 = mR m - (usedN m (k + 1) : Nat)
     omega
   · have h2 : ¬ (0 : Int) < (refsC (mC m) (k : Nat) : Nat) := of_decide_eq_false h2
     rw [if_neg (by omega)] at e
     refine ⟨by omega, k + 1, by omega, by omega, Le.sub ⟨rfl, ?_, rfl, trivial⟩ ⟨rfl, trivial⟩⟩
     show mR m - (usedN m k : Nat) = mR m - (usedN m (k + 1) : Nat)
     omega
 · have h1 : decide ((k : Int) < ((mD m).length : Nat)) = false := h1
   have hk1 : k = (mD m).length := by simp at h1; omega
   subst hk1
   exact ⟨_, _, _, Le.refl _ _, rfl, rfl, trivial, rfl⟩
/-- What is amiss with sectors, of n times c. -/
def insE (n c : Nat) (a l : Int) : Int := if l < 0 then 1 else if a < 0 then 121 else if ((n * c : Nat) : Int) < a then 121 else if ((n * c : Nat) : Int) - a < l then 121 else 0
theorem minside_fn {n : Nat} {m : Rim} (h : MOK n m) (a l : Int) : Fn Tryz.prog 97 [imV m, vI a, vI l] [] [] (vI (insE n (mC m).length a l)) [] := by
 have hc := h.cl
 have hn := h.n8
 have hb : n * (mC m).length ≤ 8 * 256 := Nat.mul_le_mul hn hc
 have e0 : mN m * ((mC m).length : Nat) = ((n * (mC m).length : Nat) : Int) := by rw [h.nm, Int.natCast_mul]
 unfold insE
 refine Fn.of tblOK [] _ _ _ _ _ Tryz.func97 rfl rfl (by kernel_rfl) (by kernel_rfl) rfl (drawOK tblOK) rfl ?_
 refine ⟨rfl, ?_⟩
 have q1 : -9223372036854775808 ≤ mN m * ((mC m).length : Nat) ∧ mN m * ((mC m).length : Nat) ≤ 9223372036854775807 := by rw [e0]; omega
 refine ⟨q1, ?_⟩
 generalize mN m * ((mC m).length : Nat) = N at *
 subst e0
 refine ⟨fun c1 => ?_, fun c1 => ?_⟩
 · have c1 : l < 0 := of_decide_eq_true c1
   rw [if_pos c1]
   exact ⟨_, _, _, Le.refl _ _, rfl, rfl, trivial, rfl⟩
 have c1 : ¬ l < 0 := of_decide_eq_false c1
 rw [if_neg c1]
 refine ⟨fun c2 => ?_, fun c2 => ?_⟩
 · have c2 : a < 0 := of_decide_eq_true c2
   rw [if_pos c2]
   exact ⟨_, _, _, Le.refl _ _, rfl, rfl, trivial, rfl⟩
 have c2 : ¬ a < 0 := of_decide_eq_false c2
 rw [if_neg c2]
 refine ⟨fun c3 => ?_, fun c3 => ?_⟩
 · have c3 : ((n * (mC m).length : Nat) : Int) < a := of_decide_eq_true c3
   rw [if_pos c3]
   exact ⟨_, _, _, Le.refl _ _, rfl, rfl, trivial, rfl⟩
 have c3 : ¬ ((n * (mC m).length : Nat) : Int) < a := of_decide_eq_false c3
 rw [if_neg c3]
 refine ⟨by omega, ?_⟩
 refine ⟨fun c4 => ?_, fun c4 => ?_⟩
 · have c4 : ((n * (mC m).length : Nat) : Int) - a < l := of_decide_eq_true c4
   rw [if_pos c4]
   exact ⟨_, _, _, Le.refl _ _, rfl, rfl, trivial, rfl⟩
 · have c4 : ¬ ((n * (mC m).length : Nat) : Int) - a < l := of_decide_eq_false c4
   rw [if_neg c4]
   exact ⟨_, _, _, Le.refl _ _, rfl, rfl, trivial, rfl⟩
/-- May a cluster be written into? -/
def qown (m : Rim) (c : Nat) : Bool := match (mC m)[c]? with
 | some x => decide (ceK x = 1) && decide (((refsC (mC m) (ceI x) : Nat) : Int) = 1)
 | none => false
theorem mown_fn {n : Nat} {m : Rim} (h : MOK n m) {c : Nat} (hc : c < (mC m).length) : Fn Tryz.prog 139 [imV m, vI (c : Int)] [] [] (vB (qown m c)) [] := by
 have hl := h.cl
 have e : qown m c = (decide (ceK (mC m)[c] = 1) && decide (((refsC (mC m) (ceI (mC m)[c]) : Nat) : Int) = 1)) := by
   unfold qown
   rw [List.getElem?_eq_getElem hc]
 rw [e]
 refine Fn.of tblOK [] _ _ _ _ _ Tryz.func139 rfl rfl (by kernel_rfl) (by kernel_rfl) rfl (drawOK tblOK) rfl ?_
 refine ⟨rfl, ?_⟩
 refine ⟨by omega, (mC m)[c], lgAt (n := c) hc, ?_⟩
 refine ⟨fun h2 => ?_, fun h2 => ?_⟩
 · have h2 : decide (ceK (mC m)[c] = 1) = true := h2
   refine ⟨by omega, (mC m)[c], lgAt (n := c) hc, ?_⟩
   refine ⟨_, _, _, _, mrefs_fn m (ceI (mC m)[c]) (by omega) h.sn, trivial, rfl, ?_⟩
   rw [h2, Bool.true_and]
   refine ⟨rfl, ?_⟩
   exact ⟨_, _, _, Le.refl _ _, rfl, rfl, trivial, rfl⟩
 · have h2 : decide (ceK (mC m)[c] = 1) = false := h2
   rw [h2, Bool.false_and]
   refine ⟨rfl, ?_⟩
   exact ⟨_, _, _, Le.refl _ _, rfl, rfl, trivial, rfl⟩
/-- How many of the first k sectors of a cluster are among some. -/
def insTo (n c a l : Nat) : Nat → Nat
 | 0 => 0
 | k + 1 => insTo n c a l k + (if a ≤ c * n + k ∧ c * n + k < a + l then 1 else 0)
theorem insTo_le (n c a l : Nat) : ∀ k, insTo n c a l k ≤ k
 | 0 => Nat.le_refl _
 | k + 1 => by
   have := insTo_le n c a l k
   unfold insTo
   split <;> omega
@[reducible] def isK (a l x s : Nat) (c : Nat) : KL := [(1, vI (c : Int)), (2, vI (a : Int)), (3, vI (l : Int)), (4, vP 4), (9, vI (x : Nat)), (10, vI (s : Nat))]
theorem minsC_fn {n : Nat} {m : Rim} (h : MOK n m) {c a l : Nat} (hc : c ≤ 256) (ha : a ≤ 100000) (hl : l ≤ 100000) : Fn Tryz.prog 138 [imV m, vI (c : Int), vI (a : Int), vI (l : Int)] [] [] (vI (insTo n c a l n : Nat)) [] := by
 have hn := h.n8
 have hb : c * n ≤ 256 * 8 := Nat.mul_le_mul hc hn
 have e0 : (c : Int) * mN m = ((c * n : Nat) : Int) := by rw [h.nm, Int.natCast_mul]
 have q1 : -9223372036854775808 ≤ (c : Int) * mN m ∧ (c : Int) * mN m ≤ 9223372036854775807 := by rw [e0]; omega
 have q2 : -9223372036854775808 ≤ (c : Int) * mN m + mN m ∧ (c : Int) * mN m + mN m ≤ 9223372036854775807 := by rw [e0, h.nm]; omega
 refine Fn.of tblOK [] _ _ _ _ _ Tryz.func138 rfl rfl (by kernel_rfl) (by kernel_rfl) rfl (drawOK tblOK) rfl ?_
 refine ⟨rfl, ?_⟩
 refine ⟨q1, ?_⟩
 show TrQ _ _ _ _ _ _ _
 refine TrQ.loop tblOK (drawOK tblOK) [] (by kernel_rfl) (X := Nat) (fun k => isK a l (insTo n c a l k) (c * n + k) c) (fun _ => [(4, .cells (imL m))]) (fun k => k ≤ n) (fun k => n - k) 0 (Nat.zero_le _) ?_ ?_
 · exact Le.sub ⟨rfl, rfl, rfl, rfl, rfl, e0, trivial⟩ ⟨rfl, trivial⟩
 intro k hk
 have hi := insTo_le n c a l k
 refine ⟨q1, q2, ?_⟩
 refine ⟨fun h1 => ?_, fun h1 => ?_⟩
 · have h1 : ((c * n + k : Nat) : Int) < (c : Int) * mN m + mN m := of_decide_eq_true h1
   rw [e0, h.nm] at h1
   have e : insTo n c a l (k + 1) = insTo n c a l k + (if a ≤ c * n + k ∧ c * n + k < a + l then 1 else 0) := rfl
   refine ⟨fun h2 => ?_, fun h2 => ?_⟩
   · have h2 : ((a : Nat) : Int) ≤ ((c * n + k : Nat) : Int) := of_decide_eq_true h2
     refine ⟨by omega, ?_⟩
     refine ⟨fun h3 => ?_, fun h3 => ?_⟩
     · have h3 : ((c * n + k : Nat) : Int) < ((a : Nat) : Int) + ((l : Nat) : Int) := of_decide_eq_true h3
       rw [if_pos (by omega)] at e
       refine ⟨by omega, ?_⟩
       refine ⟨by omega, k + 1, by omega, by omega, Le.sub ⟨rfl, rfl, rfl, rfl, ?_, ?_, trivial⟩ ⟨rfl, trivial⟩⟩
       · show ((insTo n c a l k : Nat) : Int) + 1 = ((insTo n c a l (k + 1) : Nat) : Int)
         omega
       · show ((c * n + k : Nat) : Int) + 1 = ((c * n + (k + 1) : Nat) : Int)
         omega
     · have h3 : ¬ ((c * n + k : Nat) : Int) < ((a : Nat) : Int) + ((l : Nat) : Int) := of_decide_eq_false h3
       rw [if_neg (by omega)] at e
       refine ⟨by omega, k + 1, by omega, by omega, Le.sub ⟨rfl, rfl, rfl, rfl, ?_, ?_, trivial⟩ ⟨rfl, trivial⟩⟩
       · show ((insTo n c a l k : Nat) : Int) = ((insTo n c a l (k + 1) : Nat) : Int)
         omega
       · show ((c * n + k : Nat) : Int) + 1 = ((c * n + (k + 1) : Nat) : Int)
         omega
   · have h2 : ¬ ((a : Nat) : Int) ≤ ((c * n + k : Nat) : Int) := of_decide_eq_false h2
     rw [if_neg (by omega)] at e
     refine ⟨by omega, k + 1, by omega, by omega, Le.sub ⟨rfl, rfl, rfl, rfl, ?_, ?_, trivial⟩ ⟨rfl, trivial⟩⟩
     · show ((insTo n c a l k : Nat) : Int) = ((insTo n c a l (k + 1) : Nat) : Int)
       omega
     · show ((c * n + k : Nat) : Int) + 1 = ((c * n + (k + 1) : Nat) : Int)
       omega
 · have h1 : ¬ ((c * n + k : Nat) : Int) < (c : Int) * mN m + mN m := of_decide_eq_false h1
   rw [e0, h.nm] at h1
   have hk1 : k = n := by omega
   subst hk1
   exact ⟨_, _, _, Le.refl _ _, rfl, rfl, trivial, rfl⟩
/-- A cluster's bytes; bel: what is told of Holes. -/
def clusM (n : Nat) (m : Rim) (c : Nat) (bel : List (List UInt8)) : List UInt8 := match (mC m)[c]? with
 | some x => if ceK x = 1 then (mD m).getD (ceI x).toNat [] else if ceK x = 0 then (match bel[c]? with
   | some y => if y.length = 16 * n then y else List.replicate (16 * n) 0
   | none => List.replicate (16 * n) 0) else List.replicate (16 * n) 0
 | none => []
theorem mclus_fn {n : Nat} {m : Rim} (h : MOK n m) {c : Nat} (hc : c < (mC m).length) (bel : List (List UInt8)) (hb : bel.length ≤ 1000000) : Fn Tryz.prog 132 [imV m, vI (c : Int), vL .str bel] [] [] (vS (clusM n m c bel)) [] := by
 have hl := h.cl
 have hn := h.n8
 have hn1 := h.n1
 have hnm := h.nm
 have e : clusM n m c bel = if ceK (mC m)[c] = 1 then (mD m).getD (ceI (mC m)[c]).toNat [] else if ceK (mC m)[c] = 0 then (match bel[c]? with
   | some y => if y.length = 16 * n then y else List.replicate (16 * n) 0
   | none => List.replicate (16 * n) 0) else List.replicate (16 * n) 0 := by
   unfold clusM
   rw [List.getElem?_eq_getElem hc]
 rw [e]
 have q16 : -9223372036854775808 ≤ 16 * mN m ∧ 16 * mN m ≤ 9223372036854775807 := by omega
 have e16 : (16 * mN m).toNat = 16 * n := by omega
 refine Fn.of tblOK [] _ _ _ _ _ Tryz.func132 rfl rfl (by kernel_rfl) (by kernel_rfl) rfl (drawOK tblOK) rfl ?_
 refine ⟨rfl, ?_⟩
 refine ⟨by omega, (mC m)[c], lgAt (n := c) hc, ?_⟩
 refine ⟨fun h1 => ?_, fun h1 => ?_⟩
 · have h1 : ceK (mC m)[c] = 1 := of_decide_eq_true h1
   rw [if_pos h1]
   obtain ⟨i, hi, hi2⟩ := h.ix _ (List.getElem_mem hc) h1
   have ei : (ceI (mC m)[c]).toNat = i := by omega
   refine ⟨by omega, (mC m)[c], lgAt (n := c) hc, ?_⟩
   have hi4 : (0 : Int) ≤ (i : Int) ∧ (i : Int) < (((mD m).length : Nat) : Int) := by omega
   refine ⟨(show (0 : Int) ≤ ceI (mC m)[c] by rw [hi]; exact hi4.1), (mD m)[i], (by rw [ei]; exact lgAt (n := i) hi2), ?_⟩
   rw [ei, List.getD_eq_getElem?_getD, List.getElem?_eq_getElem hi2]
   refine ⟨rfl, ?_⟩
   exact ⟨_, _, _, Le.refl _ _, rfl, rfl, trivial, rfl⟩
 have h1 : ¬ ceK (mC m)[c] = 1 := of_decide_eq_false h1
 rw [if_neg h1]
 refine ⟨by omega, (mC m)[c], lgAt (n := c) hc, ?_⟩
 refine ⟨fun h2 => ?_, fun h2 => ?_⟩
 · have h2 : ceK (mC m)[c] = 0 := of_decide_eq_true h2
   rw [if_pos h2]
   refine ⟨fun h3 => ?_, fun h3 => ?_⟩
   · have h3 : (c : Int) < ((bel.length : Nat) : Int) := of_decide_eq_true h3
     have h3 : c < bel.length := by omega
     rw [List.getElem?_eq_getElem h3]
     simp only
     refine ⟨by omega, bel[c], lgAt (n := c) h3, ?_⟩
     refine ⟨q16, ?_⟩
     refine ⟨rfl, fun h4 => ?_, fun h4 => ?_⟩
     · have h4 : (((bel[c]).length : Nat) : Int) = 16 * mN m := of_decide_eq_true h4
       rw [if_pos (by omega)]
       refine ⟨by omega, bel[c], lgAt (n := c) h3, ?_⟩
       exact ⟨_, _, _, Le.refl _ _, rfl, rfl, trivial, rfl⟩
     · have h4 : ¬ (((bel[c]).length : Nat) : Int) = 16 * mN m := of_decide_eq_false h4
       rw [if_neg (by omega)]
       refine ⟨q16, ?_⟩
       refine ⟨by omega, rfl, ?_⟩
       rw [← e16]
       exact ⟨_, _, _, Le.refl _ _, rfl, rfl, trivial, rfl⟩
   · have h3 : ¬ (c : Int) < ((bel.length : Nat) : Int) := of_decide_eq_false h3
     rw [List.getElem?_eq_none (by omega)]
     simp only
     refine ⟨rfl, ?_⟩
     refine ⟨q16, ?_⟩
     refine ⟨by omega, rfl, ?_⟩
     rw [← e16]
     exact ⟨_, _, _, Le.refl _ _, rfl, rfl, trivial, rfl⟩
 · have h2 : ¬ ceK (mC m)[c] = 0 := of_decide_eq_false h2
   rw [if_neg h2]
   refine ⟨rfl, ?_⟩
   refine ⟨q16, ?_⟩
   refine ⟨by omega, rfl, ?_⟩
   rw [← e16]
   exact ⟨_, _, _, Le.refl _ _, rfl, rfl, trivial, rfl⟩
end Go.Proofs.YteoamepgonpdlaaGreat
/-!
  The document's image (layer 12): laid, set, put.
-/
namespace Go.Proofs.YteoamepgonpdlaaGreat
set_option linter.unusedVariables false
set_option linter.unusedSimpArgs false
set_option maxRecDepth 10000
open Go.RowKit Go.Proofs
/-! ### a row's length, told of its old header -/
/-- A mark: the header d tells n. -/
def lenIs (n : Nat) (q : Pl) : Ob where
 R := fun I F w p => q.n = n ∧ ∀ x, ¬ F x
 stable := fun _ _ _ _ _ _ h _ _ _ => h
section
variable {P : Program} {N : Nat} {ids : List Nat} {K : KL} {B : BL} {o : Oper}
theorem Le.lenAt (d m : Nat) {e : Nat} {u : U} {xs : List (El u)} (hd : lookB B d = some (.row e u xs)) (hm : freshB ids K B m = true) (hne : d ≠ m) : Le ids K B K ((m, .dep d (lenIs xs.length)) :: B) := by
 rintro N C a w ⟨hn, hdf, ρ, F, hM, hS⟩
 have hfr := fresh_of hm
 obtain ⟨hF, hblk, cs, hown, _⟩ := hM.holds d _ hd
 obtain ⟨_, A, cap, hv, _⟩ := Sl.of_own hown
 have hl : (ρ d).n = xs.length := by
   unfold Pl.hdr at hv
   injection hv
 obtain ⟨hM', hE⟩ := hM.make (ch := .dep d (lenIs xs.length)) (w' := w) hm (Below.refl _ _) ⟨0, none, 0, 0⟩ (fun _ => False) (fun _ h => h.elim) (fun I _ _ => by
   show (lenIs xs.length (upd ρ m _ d)).R I _ w _
   rw [upd_other _ _ hne]
   exact ⟨hl, fun _ h => h⟩)
 exact ⟨hn, hdf, _, _, hM', hS.mono hE fun s c hc => upd_other _ _ (fun e => by subst e; rw [hfr.1 s] at hc; cases hc)⟩
theorem opOK_lenAt {tt : Tr} (hP : TblOK P tt) {T e : TypeId} {te : TI} {x : Operand} {c : Call} {d m n : Nat} (ho : o.op = .call c) (hc1 : c.callee = .builtin .len) (hc2 : c.args.toList = [x]) (hc3 : c.argTypes.toList = [T]) (he : elemOf tt T = some (e, te))
   (hx : opv K x = .c (.one (.own d))) (hm : lookB B m = some (.dep d (lenIs n))) (N : Nat) : OpOK P N ids o K B (vI (n : Nat)) ⟨[m], [], []⟩ := by
 have hargs : c.args = #[x] := Array.toList_inj.1 hc2
 have hts : c.argTypes = #[T] := Array.toList_inj.1 hc3
 obtain ⟨cal, args, ts⟩ := c
 simp only at hc1 hargs hts
 subst hc1 hargs hts
 have m1 : x ∈ o.op.operands := by rw [ho]; simp [Op.operands, Call.operands]
 obtain ⟨ht, _⟩ := elem_ok hP he
 refine OpOK.val fun K' B' g1 g2 C ρ F a w hM hS => ?_
 have hl : (ρ d).n = n := (hM.holds m _ ((g2 m (by simp)).trans hm)).1
 have hx' : a.eval x = .slice (ρ d).A (ρ d).n (ρ d).cap := hS.own ((g1 x m1).trans hx)
 refine ⟨.int .i64 (n : Int), ?_, rfl⟩
 simp [execOp, ho, hx', hl, resolve, invoke, builtin, Builtin.len_, run_underlying ht, goInt]
end
/-! ### a region of which one operation is told by the user -/
section
variable {P : Program} {tt : Tr} {N : Nat} {ids : List Nat} {K : KL} {B : BL}
def vcOpY (P : Program) (tt : Tr) (ids : List Nat) (j : Nat) (o : Oper) (K : KL) (B : BL) (k : SV → Eff → Prop) : Prop := match o.dst with
 | some d => match Nat.beq d j with
   | true => vcAny P ids o K B k
   | false => vcOp P tt ids o K B k
 | none => vcOp P tt ids o K B k
def vcsYS (P : Program) (tt : Tr) (ids : List Nat) (j : Nat) (all : List Oper) (o : Oper) (l : List Oper) (ih : KL → BL → Prop) (K : KL) (B : BL) : Prop :=
 match wants all K o.guard with
 | none => False
 | some false => match o.dst with
   | some d => ih ((d, .undef) :: K) B
   | none => ih K B
 | some true => vcOpY P tt ids j o K B fun v e => match o.dst with
   | none => ih K (applyB e.wc B)
   | some d => match isG (all.length - l.length - 1) l, v with
     | true, .c (.one (.d (.bool b))) => (b = true → ih ((d, .c (.one (.d (.lit true)))) :: K) (applyB e.wc B)) ∧ (b = false → ih ((d, .c (.one (.d (.lit false)))) :: K) (applyB e.wc B))
     | _, v => ih ((d, v) :: K) (applyB e.wc B)
noncomputable def vcsY (P : Program) (tt : Tr) (ids : List Nat) (j : Nat) (all l : List Oper) (K : KL) (B : BL) (k : KL → BL → Prop) : Prop :=
 List.rec (motive := fun _ => KL → BL → Prop) k (fun o l ih K B => vcsYS P tt ids j all o l ih K B) l K B
theorem vcsY_cons {j : Nat} {all l : List Oper} {o : Oper} {k : KL → BL → Prop} : vcsY P tt ids j all (o :: l) K B k = vcsYS P tt ids j all o l (fun K B => vcsY P tt ids j all l K B k) K B := rfl
theorem vcOpY_sound (hP : TblOK P tt) {j : Nat} {o : Oper} {k : SV → Eff → Prop} (h : vcOpY P tt ids j o K B k) : ∃ v e, k v e ∧ OpOK P N ids o K B v e ∧ ∀ c, c ∈ e.nw → freshB ids K B c = true := by
 unfold vcOpY at h
 split at h
 · split at h
   · exact snd_any h
   · exact vcOp_sound hP h
 · exact vcOp_sound hP h
theorem vcsY_seq (hP : TblOK P tt) (j : Nat) (all : List Oper) : ∀ (l : List Oper) (K : KL) (B : BL) (k : KL → BL → Prop), dstOK N l = true → vcsY P tt ids j all l K B k → ∀ (C : Ctx) (a : Act) (w : World), Sat N ids C K B a w →
   ∀ (r : Option Nat) (Q : Exit → Act → World → Prop), (∀ K' B', k K' B' → ∀ a' w', Sat N ids C K' B' a' w' → Q .normal a' w') → wpListIn (wideR r) 0 P all.toArray Q l a w
 | [], K, B, k, _, h, C, a, w, hs, r, Q, hk => wpListIn_nil (hk K B h a w hs)
 | o :: l, K, B, k, hd, h, C, a, w, hs, r, Q, hk => by
   simp only [dstOK, Bool.and_eq_true] at hd
   obtain ⟨⟨hd0, hnd⟩, hdl⟩ := hd
   have hnd := notDefer hnd
   have hlt : ∀ d, o.dst = some d → d < N := fun d e => by rw [e] at hd0; simpa [Nat.blt_eq] using hd0
   have hs' := hs
   obtain ⟨_, _, ρ, F, hM, hS⟩ := hs'
   rw [vcsY_cons] at h
   unfold vcsYS at h
   refine wpListIn_step fun Kn hKn => ?_
   split at h
   · exact h.elim
   · rename_i hw
     rw [if_neg (by rw [wants_sound hw hS]; simp)]
     refine ⟨fun _ _ => trivial, hKn _ _ ?_⟩
     have hu := hs.undef o.dst hlt
     split at h
     · rename_i d e
       rw [e] at hu ⊢
       exact vcsY_seq hP j all l _ _ k hdl h C _ w hu r Q hk
     · rename_i e
       rw [e] at hu ⊢
       exact vcsY_seq hP j all l _ _ k hdl h C _ w hu r Q hk
   · rename_i hw
     rw [if_pos (wants_sound hw hS)]
     obtain ⟨v, e, h, hO, hf⟩ := vcOpY_sound hP h
     refine op_in hnd (hO K B (fun _ _ => rfl) (fun _ _ => rfl) hf C a w hs hlt Kn Q fun a' w' hs2 => hKn _ _ ?_)
     split at h
     · rename_i e2
       rw [e2] at hs2
       exact vcsY_seq hP j all l _ _ k hdl h C _ w' hs2 r Q hk
     · rename_i d e2
       rw [e2] at hs2
       split at h
       · rename_i b hg
         cases b with
         | true => exact vcsY_seq hP j all l _ _ k hdl (h.1 rfl) C _ w' hs2.lit r Q hk
         | false => exact vcsY_seq hP j all l _ _ k hdl (h.2 rfl) C _ w' hs2.lit r Q hk
       · exact vcsY_seq hP j all l _ _ k hdl h C _ w' hs2 r Q hk
theorem TrQ.regionY (hP : TblOK P tt) (j : Nat) {id : Nat} {ops : Array Oper} {Q : Ex → KL → BL → Prop} (hd : dstOK N ops.toList = true) (h : vcsY P tt ids j ops.toList ops.toList K B (fun K B => Q .nrm K B)) : TrQ P N ids (.region id ops false) K B Q := by
 intro r hr C Qs hq a w hs
 refine wpIn_region_list ?_
 have := vcsY_seq hP j ops.toList ops.toList K B _ hd h C a w hs r Qs (fun K' B' hk a' w' hs' => hq .nrm K' B' C.ds (fun _ => rfl) hk a' w' hs')
 simpa using this
end
/-! ### a whole thing of a row is written -/
theorem splice_get {α : Type} {l us : List α} {p : Nat} (h : p + us.length ≤ l.length) (i : Nat) : (l.take p ++ us ++ l.drop (p + us.length))[i]? = if p ≤ i ∧ i < p + us.length then us[i - p]? else l[i]? := by
 have h1 : (l.take p).length = p := by rw [List.length_take]; omega
 by_cases c1 : i < p
 · rw [if_neg (by omega), List.append_assoc, List.getElem?_append_left (by omega), List.getElem?_take, if_pos c1]
 · by_cases c2 : i < p + us.length
   · rw [if_pos ⟨by omega, c2⟩, List.append_assoc, List.getElem?_append_right (by omega), h1, List.getElem?_append_left (by omega)]
   · rw [if_neg (by omega), List.getElem?_append_right (by rw [List.length_append]; omega), List.length_append, h1, List.getElem?_drop]
     congr 1
     omega
theorem splice_take {α : Type} {l us : List α} {p N : Nat} (h : p + us.length ≤ N) (hN : N ≤ l.length) : (l.take p ++ us ++ l.drop (p + us.length)).take N = (l.take N).take p ++ us ++ (l.take N).drop (p + us.length) := by
 apply List.ext_getElem?
 intro i
 rw [List.getElem?_take, splice_get (by omega), splice_get (by rw [List.length_take]; omega), List.getElem?_take]
 by_cases c : i < N
 · rw [if_pos c, if_pos c]
 · rw [if_neg c, if_neg c, if_neg (by omega)]
section
variable {P : Program} {ids : List Nat} {K : KL} {B : BL}
theorem opOK_rowPut {o : Oper} {T : TypeId} {x v : Operand} {c i : Nat} {e : TypeId} {u : U} {xs : List (El u)} {y : El u} {inf : TypeInfo} (ho : o.op = .store T x v) (hi : P.info? T = some inf) (hz : inf.size = sz u) (hx : opv K x = .c (.one (.rp c (sz u) i 0)))
   (hv : opv K v = .c (.agg (listU u y 0 (sz u)))) (hB : lookB B c = some (.row e u xs)) (hil : i < xs.length) (hw : WfU u y) (N : Nat) :
   OpOK P N ids o K B .undef ⟨[c], [], [(c, some (.row e u (xs.set i y)))]⟩ := by
 have m1 : x ∈ o.op.operands := by rw [ho]; simp [Op.operands]
 have m2 : v ∈ o.op.operands := by rw [ho]; simp [Op.operands]
 refine OpOK.turn hB fun K' B' g1 C ρ F a w hM hS hl' => ?_
 obtain ⟨hF, hblk, cs, hown, hrec⟩ := hM.holds c _ hl'
 have hxp := hS.rp ((g1 x m1).trans hx)
 obtain ⟨us, e2, h2⟩ := hS.ev ((g1 v m2).trans hv)
 have hul : us.length = sz u := by rw [DenL.length _ _ h2, listU_length]
 have hud := listU_mk hw h2
 have hone : ∀ z, z ∈ us → z.oneCell' = true := fun z hz => by
   obtain ⟨q, hq, rfl⟩ := List.getElem_of_mem hz
   obtain ⟨z', hz', ho'⟩ := DenU.one u y _ hud q (by omega)
   rw [List.getElem?_eq_getElem hq] at hz'
   injection hz' with hz'
   rw [hz']
   exact ho'
 obtain ⟨hl1, hown⟩ := hown
 rcases hown with ⟨_, h0⟩ | ⟨g, cap, cur, hv', _, hg, hcap, hm, hsz, ht⟩
 · omega
 · have hbg : g = (ρ c).blk := hblk g (by rw [hv']; rfl)
   subst hbg
   have hmul : i * sz u + sz u ≤ xs.length * sz u := by
     have := Nat.mul_le_mul_right (sz u) hil
     rw [Nat.succ_mul] at this
     exact this
   have hmul2 : xs.length * sz u ≤ cap * sz u := Nat.mul_le_mul_right _ hcap
   have hcl : cur.toList.length = cur.size := by simp
   have hgt : w.heap[(ρ c).blk]? = some (.cells (List.toArray cur.toList) e (0, 0)) := by simpa using hg
   have hfit : i * sz u + us.length ≤ cur.toList.length := by simp; omega
   have hex := exec_store (P := P) (ev := a.eval) (w := w) (us := us) ho (by rw [hxp, Nat.add_zero]) (by rw [e2]; rfl) hi (hz.trans hul.symm) hgt hfit hone
   refine ⟨_, hex, setRow_fr ((hF _).2 (by rw [hv']; rfl)), fun I he => ?_⟩
   have hnew := setRow_heap w (ρ c).blk cur (List.take (i * sz u) cur.toList ++ us ++ List.drop (i * sz u + us.length) cur.toList).toArray e (0, 0) hg
   have hfc : i * sz u + us.length ≤ cs.length := by rw [hl1, hul]; exact hmul
   refine ⟨hF, hblk, cs.take (i * sz u) ++ us ++ cs.drop (i * sz u + us.length), ⟨by rw [List.length_append, List.length_append, List.length_take, List.length_drop, List.length_set]; omega, .inr ⟨(ρ c).blk, cap, _, by rw [hv']; simp, Nat.zero_le _, hnew, by simpa using hcap, hm, by simp; omega, ?_⟩⟩, fun j z hz => ?_⟩
   · rw [List.length_set]
     have := splice_take (l := cur.toList) (us := us) (p := i * sz u) (N := xs.length * sz u) (by omega) (by simp; omega)
     rw [← ht]
     simpa using this
   · by_cases hji : i = j
     · subst hji
       rw [List.getElem?_set_self hil] at hz
       injection hz with hz
       subst hz
       refine DenU.mk u y _ hw fun q hq => ?_
       obtain ⟨z, hz, hz2⟩ := DenU.cell u y _ q hud hq
       refine ⟨z, ?_, Den.mono he _ _ hz2⟩
       rw [splice_get hfc, if_pos ⟨by omega, by omega⟩, show i * sz u + q - i * sz u = q by omega]
       exact hz
     · rw [List.getElem?_set_ne hji] at hz
       have hd := hrec j z hz
       refine DenU.mk u z _ (DenU.wf u z _ hd) fun q hq => ?_
       obtain ⟨x, hx, hx2⟩ := DenU.cell u z _ q hd hq
       refine ⟨x, ?_, Den.mono he _ _ hx2⟩
       rw [splice_get hfc, if_neg ?_]
       · exact hx
       · rintro ⟨a1, a2⟩
         rw [hul] at a2
         rcases Nat.lt_or_gt_of_ne hji with hlt | hgt
         · have := Nat.mul_le_mul_right (sz u) (show i + 1 ≤ j by omega)
           rw [Nat.succ_mul] at this
           omega
         · have := Nat.mul_le_mul_right (sz u) (show j + 1 ≤ i by omega)
           rw [Nat.succ_mul] at this
           omega
end
/-- Of a cluster's bytes, with sectors of b (which begin at a) over them, the k-th sector. -/
def ldP (n c a : Nat) (x b : List UInt8) (k : Nat) : List UInt8 :=
 if a ≤ c * n + k ∧ 16 * (c * n + k - a) + 16 ≤ b.length then (b.take (16 * (c * n + k - a) + 16)).drop (16 * (c * n + k - a)) else (x.take (16 * k + 16)).drop (16 * k)
def ldTo (n c a : Nat) (x b : List UInt8) : Nat → List UInt8
 | 0 => []
 | k + 1 => ldTo n c a x b k ++ ldP n c a x b k
theorem ldP_len {n c a : Nat} {x b : List UInt8} {k : Nat} (hx : 16 * k + 16 ≤ x.length) : (ldP n c a x b k).length = 16 := by
 unfold ldP
 split
 · rw [List.length_drop, List.length_take]; omega
 · rw [List.length_drop, List.length_take]; omega
theorem ldTo_len {n c a : Nat} {x b : List UInt8} : ∀ k, 16 * k ≤ x.length → (ldTo n c a x b k).length = 16 * k
 | 0, _ => rfl
 | k + 1, h => by
   rw [ldTo, List.length_append, ldTo_len k (by omega), ldP_len (by omega)]
   omega
@[reducible] def ldK (c a : Nat) (x b acc : List UInt8) (k : Nat) : KL := [(1, vS x), (2, vI (c : Int)), (3, vI (a : Int)), (4, vS b), (5, vP 5), (11, vS acc), (12, vI (k : Nat))]
theorem mlaid_fn {n : Nat} {m : Rim} (h : MOK n m) {c a : Nat} {x b : List UInt8} (hc : c ≤ 256) (ha : a ≤ 100000) (hx : x.length = 16 * n) (hb : b.length ≤ 1000000) : Fn Tryz.prog 143 [imV m, vS x, vI (c : Int), vI (a : Int), vS b] [] [] (vS (ldTo n c a x b n)) [] := by
 have hn := h.n8
 have hnm := h.nm
 have hcn : c * n ≤ 256 * 8 := Nat.mul_le_mul hc hn
 have e0 : (c : Int) * mN m = ((c * n : Nat) : Int) := by rw [h.nm, Int.natCast_mul]
 have q1 : -9223372036854775808 ≤ (c : Int) * mN m ∧ (c : Int) * mN m ≤ 9223372036854775807 := by rw [e0]; omega
 refine Fn.of tblOK [] _ _ _ _ _ Tryz.func143 rfl rfl (by kernel_rfl) (by kernel_rfl) rfl (drawOK tblOK) rfl ?_
 refine ⟨rfl, ?_⟩
 show TrQ _ _ _ _ _ _ _
 refine TrQ.loop tblOK (drawOK tblOK) [] (by kernel_rfl) (X := Nat) (fun k => ldK c a x b (ldTo n c a x b k) k) (fun _ => [(5, .cells (imL m))]) (fun k => k ≤ n) (fun k => n - k) 0 (Nat.zero_le _) ?_ ?_
 · exact Le.sub ⟨rfl, rfl, rfl, rfl, rfl, rfl, rfl, trivial⟩ ⟨rfl, trivial⟩
 intro k hk
 refine ⟨fun h1 => ?_, fun h1 => ?_⟩
 · have h1 : ((k : Nat) : Int) < mN m := of_decide_eq_true h1
   have hk1 : k < n := by omega
   have hlen := ldTo_len (n := n) (c := c) (a := a) (x := x) (b := b) k (by omega)
   have e : ldTo n c a x b (k + 1) = ldTo n c a x b k ++ ldP n c a x b k := rfl
   have q2 : -9223372036854775808 ≤ (c : Int) * mN m + (k : Nat) ∧ (c : Int) * mN m + (k : Nat) ≤ 9223372036854775807 := by rw [e0]; omega
   have q3 : -9223372036854775808 ≤ (c : Int) * mN m + (k : Nat) - (a : Nat) ∧ (c : Int) * mN m + (k : Nat) - (a : Nat) ≤ 9223372036854775807 := by rw [e0]; omega
   refine ⟨q1, q2, q3, ?_⟩
   have e3 : (c : Int) * mN m + (k : Nat) - (a : Nat) = ((c * n + k : Nat) : Int) - (a : Nat) := by rw [e0]; omega
   rw [e3]
   refine ⟨fun h2 => ?_, fun h2 => ?_⟩
   · have h2 : 0 ≤ ((c * n + k : Nat) : Int) - (a : Nat) := of_decide_eq_true h2
     obtain ⟨s, hs⟩ : ∃ s : Nat, s = c * n + k - a := ⟨_, rfl⟩
     have es : ((c * n + k : Nat) : Int) - (a : Nat) = (s : Int) := by omega
     rw [es]
     refine ⟨by omega, by omega, ?_⟩
     refine ⟨fun h3 => ?_, fun h3 => ?_⟩
     · have h3 : 16 * (s : Int) + 16 ≤ ((b.length : Nat) : Int) := of_decide_eq_true h3
       have ep : ldP n c a x b k = (b.take (16 * s + 16)).drop (16 * s) := by
         unfold ldP
         rw [← hs, if_pos ⟨by omega, by omega⟩]
       have ep2 : ldP n c a x b k = (b.take (16 * (s : Int) + 16).toNat).drop (16 * (s : Int)).toNat := by rw [ep, show (16 * (s : Int) + 16).toNat = 16 * s + 16 by omega, show (16 * (s : Int)).toNat = 16 * s by omega]
       have el := ldP_len (n := n) (c := c) (a := a) (x := x) (b := b) (k := k) (by omega)
       rw [ep2] at el
       refine ⟨by omega, by omega, by omega, by omega, ?_⟩
       have e5 : (ldTo n c a x b k).length + ((b.take (16 * (s : Int) + 16).toNat).drop (16 * (s : Int)).toNat).length ≤ 4294967296 := by omega
       refine ⟨e5, ?_⟩
       refine ⟨by omega, k + 1, by omega, by omega, Le.sub ⟨rfl, rfl, rfl, rfl, rfl, ?_, rfl, trivial⟩ ⟨rfl, trivial⟩⟩
       rw [e, ep2]
       rfl
     · have h3 : ¬ 16 * (s : Int) + 16 ≤ ((b.length : Nat) : Int) := of_decide_eq_false h3
       have ep : ldP n c a x b k = (x.take (16 * (k : Int) + 16).toNat).drop (16 * (k : Int)).toNat := by
         unfold ldP
         rw [← hs, if_neg (by omega), show (16 * (k : Int) + 16).toNat = 16 * k + 16 by omega, show (16 * (k : Int)).toNat = 16 * k by omega]
       have el := ldP_len (n := n) (c := c) (a := a) (x := x) (b := b) (k := k) (by omega)
       rw [ep] at el
       refine ⟨by omega, by omega, by omega, by omega, ?_⟩
       have e5 : (ldTo n c a x b k).length + ((x.take (16 * (k : Int) + 16).toNat).drop (16 * (k : Int)).toNat).length ≤ 4294967296 := by omega
       refine ⟨e5, ?_⟩
       refine ⟨by omega, k + 1, by omega, by omega, Le.sub ⟨rfl, rfl, rfl, rfl, rfl, ?_, rfl, trivial⟩ ⟨rfl, trivial⟩⟩
       rw [e, ep]
       rfl
   · have h2 : ¬ 0 ≤ ((c * n + k : Nat) : Int) - (a : Nat) := of_decide_eq_false h2
     have ep : ldP n c a x b k = (x.take (16 * (k : Int) + 16).toNat).drop (16 * (k : Int)).toNat := by
       unfold ldP
       rw [if_neg (by omega), show (16 * (k : Int) + 16).toNat = 16 * k + 16 by omega, show (16 * (k : Int)).toNat = 16 * k by omega]
     have el := ldP_len (n := n) (c := c) (a := a) (x := x) (b := b) (k := k) (by omega)
     rw [ep] at el
     refine ⟨by omega, by omega, by omega, by omega, ?_⟩
     have e5 : (ldTo n c a x b k).length + ((x.take (16 * (k : Int) + 16).toNat).drop (16 * (k : Int)).toNat).length ≤ 4294967296 := by omega
     refine ⟨e5, ?_⟩
     refine ⟨by omega, k + 1, by omega, by omega, Le.sub ⟨rfl, rfl, rfl, rfl, rfl, ?_, rfl, trivial⟩ ⟨rfl, trivial⟩⟩
     rw [e, ep]
     rfl
 · have h1 : ¬ ((k : Nat) : Int) < mN m := of_decide_eq_false h1
   have hk1 : k = n := by omega
   subst hk1
   exact ⟨_, _, _, Le.refl _ _, rfl, rfl, trivial, rfl⟩
/-- A cell is another one. -/
@[reducible] def setM (m : Rim) (c : Nat) (x : Cell) : Rim := mkM (mN m) (mR m) ((mC m).set c x) (mS m) (mD m)
theorem infCe : (Tryz.prog.info? 148).map (·.size) = some 2 := by kernel_rfl
theorem mset_fn (m : Rim) {c : Nat} (hl : (mC m).length ≤ 1000000) (hc : c < (mC m).length) (x : Cell) : Fn Tryz.prog 141 [imV m, vI (c : Int), .c (.agg [.d (.int .i64 (ceK x)), .d (.int .i64 (ceI x))])] [] [] (.c (.agg (imL (setM m c x)))) [] := by
 refine Fn.of tblOK [3] _ _ _ _ _ Tryz.func141 rfl rfl (by kernel_rfl) (by kernel_rfl) rfl (drawOK tblOK) rfl ?_
 refine ⟨rfl, ?_⟩
 refine ⟨rfl, ?_⟩
 refine ⟨rfl, ?_⟩
 have h1 : (0 : Nat) + (mC m).length ≤ 4294967296 := by omega
 refine ⟨rfl, h1, rfl, ?_⟩
 have h2 : 0 ≤ (c : Int) ∧ (c : Int) < (((mC m).length : Nat) : Int) := by omega
 refine ⟨h2, ?_⟩
 obtain ⟨inf, hi1, hi2⟩ := inf_of infCe
 refine ⟨_, _, fun N => opOK_rowPut (u := uCe) (y := x) rfl hi1 hi2 rfl rfl rfl (by show c < (mC m).length; exact hc) ⟨trivial, trivial⟩ N, rfl, ?_⟩
 show TrQ _ _ _ _ _ _ _
 refine TrQ.go tblOK (drawOK tblOK) [] (by kernel_rfl) (Le.frz 11 rfl) ?_
 exact ⟨_, _, _, Le.refl _ _, rfl, ⟨rfl, rfl, rfl, rfl, rfl, trivial⟩, trivial, rfl⟩
/-- A cluster has another content: in its own one, or a new one. -/
def putM (m : Rim) (c : Nat) (x : List UInt8) : Rim := match qown m c with
 | true => mkM (mN m) (mR m) (mC m) (mS m) ((mD m).set (ceI ((mC m).getD c (mkCe 0 0))).toNat x)
 | false => setM (mkM (mN m) (mR m) (mC m) (mS m) (mD m ++ [x])) c (mkCe 1 ((mD m).length : Nat))
theorem mput_fn {n : Nat} {m : Rim} (h : MOK n m) {c : Nat} (hc : c < (mC m).length) (x : List UInt8) : Fn Tryz.prog 142 [imV m, vI (c : Int), vS x] [] [] (.c (.agg (imL (putM m c x)))) [] := by
 have hl := h.cl
 have hd := h.dl
 unfold putM
 refine Fn.of tblOK [4,6,7] _ _ _ _ _ Tryz.func142 rfl rfl (by kernel_rfl) (by kernel_rfl) rfl (drawOK tblOK) rfl ?_
 refine ⟨rfl, ?_⟩
 refine ⟨rfl, ?_⟩
 have h1 : (0 : Nat) + (mD m).length ≤ 4294967296 := by omega
 refine ⟨rfl, h1, rfl, ?_⟩
 refine ⟨_, _, _, _, mown_fn h hc, trivial, rfl, ?_⟩
 cases e1 : qown m c with
 | true =>
   refine ⟨fun _ => ?_, fun h => absurd h (by decide)⟩
   have hk : ceK (mC m)[c] = 1 := by
     unfold qown at e1
     rw [List.getElem?_eq_getElem hc] at e1
     simp only [Bool.and_eq_true, decide_eq_true_eq] at e1
     exact e1.1
   obtain ⟨i, hi, hi2⟩ := h.ix _ (List.getElem_mem hc) hk
   refine ⟨by omega, (mC m)[c], lgAt (n := c) hc, ?_⟩
   have hi3 : (0 : Int) ≤ ceI (mC m)[c] ∧ ceI (mC m)[c] < (((mD m).length : Nat) : Int) := by rw [hi]; omega
   refine ⟨hi3, ?_⟩
   refine ⟨⟨trivial, (show (ceI (mC m)[c]).toNat < (mD m).length by rw [hi, Int.toNat_natCast]; exact hi2)⟩, ?_⟩
   have eg : (mC m).getD c (mkCe 0 0) = (mC m)[c] := by rw [List.getD_eq_getElem?_getD, List.getElem?_eq_getElem hc]; rfl
   rw [eg]
   show TrQ _ _ _ _ _ _ _
   refine TrQ.go tblOK (drawOK tblOK) [] (by kernel_rfl) (Le.frz 11 rfl) ?_
   exact ⟨_, _, _, Le.refl _ _, rfl, ⟨rfl, rfl, rfl, rfl, rfl, trivial⟩, trivial, rfl⟩
 | false =>
   refine ⟨fun h => absurd h (by decide), fun _ => ?_⟩
   show TrQ _ _ _ _ _ _ _
   refine TrQ.go tblOK (drawOK tblOK) [7] (by kernel_rfl) (Le.lenAt 11 9001 rfl rfl (by decide)) ?_
   have h2 : (mD m).length + 1 ≤ 4294967296 := by omega
   refine ⟨h2, rfl, ?_⟩
   show TrQ _ _ _ _ _ _ _
   refine TrQ.le (Le.frz 30 rfl) ?_
   refine TrQ.regionY tblOK 35 (by kernel_rfl) ?_
   refine ⟨_, _, fun N => opOK_lenAt (m := 9001) (n := (mD m).length) tblOK rfl rfl rfl rfl rfl rfl rfl N, rfl, ?_⟩
   refine ⟨_, _, _, _, mset_fn (mkM (mN m) (mR m) (mC m) (mS m) (mD m ++ [x])) (by show (mC m).length ≤ 1000000; omega) hc (mkCe 1 ((mD m).length : Nat)), trivial, rfl, ?_⟩
   exact ⟨_, _, _, Le.refl _ _, rfl, ⟨rfl, rfl, rfl, rfl, rfl, trivial⟩, trivial, rfl⟩
end Go.Proofs.YteoamepgonpdlaaGreat
/-!
  The document's image (layer 12): New, Read, Write, Discard, Do.
-/
namespace Go.Proofs.YteoamepgonpdlaaGreat
set_option linter.unusedVariables false
set_option linter.unusedSimpArgs false
set_option maxRecDepth 10000
open Go.RowKit Go.Proofs
theorem MOK.set {n : Nat} {m : Rim} (h : MOK n m) (c : Nat) {k : Int} (hk : k ≠ 1) : MOK n (setM m c (mkCe k 0)) where
 nm := h.nm
 n1 := h.n1
 n8 := h.n8
 cl := by show ((mC m).set c _).length ≤ 256; rw [List.length_set]; exact h.cl
 sn := h.sn
 dl := h.dl
 wd := h.wd
 ix := fun x hx hx1 => by
   rcases List.mem_or_eq_of_mem_set hx with hx | hx
   · exact h.ix x hx hx1
   · subst hx; exact absurd hx1 hk
 r0 := h.r0
 r1 := h.r1
theorem putM_cl (m : Rim) (c : Nat) (x : List UInt8) : (mC (putM m c x)).length = (mC m).length := by
 unfold putM
 split
 · rfl
 · show ((mC m).set c _).length = _
   rw [List.length_set]
theorem putM_dl (m : Rim) (c : Nat) (x : List UInt8) : (mD (putM m c x)).length ≤ (mD m).length + 1 := by
 unfold putM
 split
 · show ((mD m).set _ _).length ≤ _
   rw [List.length_set]; omega
 · show (mD m ++ [x]).length ≤ _
   rw [List.length_append]; exact Nat.le_refl _
theorem MOK.put {n : Nat} {m : Rim} (h : MOK n m) (c : Nat) {x : List UInt8} (hx : x.length = 16 * n) (hd : (mD m).length + 1 ≤ 100000) : MOK n (putM m c x) where
 nm := by unfold putM; split <;> exact h.nm
 n1 := h.n1
 n8 := h.n8
 cl := by rw [putM_cl]; exact h.cl
 sn := by unfold putM; split <;> exact h.sn
 dl := Nat.le_trans (putM_dl m c x) hd
 wd := fun y hy => by
   unfold putM at hy
   split at hy
   · rcases List.mem_or_eq_of_mem_set (show y ∈ (mD m).set _ x from hy) with hy | hy
     · exact h.wd y hy
     · subst hy; exact hx
   · rcases List.mem_append.1 (show y ∈ mD m ++ [x] from hy) with hy | hy
     · exact h.wd y hy
     · rw [List.mem_singleton] at hy; subst hy; exact hx
 ix := fun y hy hk => by
   unfold putM at hy ⊢
   split at hy
   · obtain ⟨i, e1, e2⟩ := h.ix y hy hk
     exact ⟨i, e1, by show i < ((mD m).set _ x).length; rw [List.length_set]; exact e2⟩
   · have e3 : (mD m ++ [x]).length = (mD m).length + 1 := by rw [List.length_append]; rfl
     rcases List.mem_or_eq_of_mem_set (show y ∈ (mC m).set c _ from hy) with hy | hy
     · obtain ⟨i, e1, e2⟩ := h.ix y hy hk
       exact ⟨i, e1, by show i < (mD m ++ [x]).length; omega⟩
     · subst hy
       exact ⟨(mD m).length, rfl, by show (mD m).length < (mD m ++ [x]).length; omega⟩
 r0 := by unfold putM; split <;> exact h.r0
 r1 := by unfold putM; split <;> exact h.r1
theorem clusM_len {n : Nat} {m : Rim} (h : MOK n m) {c : Nat} (hc : c < (mC m).length) (bel : List (List UInt8)) : (clusM n m c bel).length = 16 * n := by
 unfold clusM
 rw [List.getElem?_eq_getElem hc]
 simp only
 split
 · rename_i h1
   obtain ⟨i, e1, e2⟩ := h.ix _ (List.getElem_mem hc) h1
   rw [show (ceI (mC m)[c]).toNat = i by omega, List.getD_eq_getElem?_getD, List.getElem?_eq_getElem e2]
   exact h.wd _ (List.getElem_mem e2)
 · split
   · split
     · split
       · assumption
       · exact List.length_replicate
     · exact List.length_replicate
   · exact List.length_replicate
/-! ### New -/
def newM (bits size room : Int) : Rim := match newMay bits size room with
 | true => mkM ((2 ^ bits.toNat : Nat) : Int) room (List.replicate size.toNat (mkCe 0 0)) [] []
 | false => mkM 0 0 [] [] []
theorem newM_ok {bits size room : Int} (h : newMay bits size room = true) : MOK (2 ^ bits.toNat) (newM bits size room) := by
 obtain ⟨⟨a1, a2⟩, ⟨a3, a4⟩, a5, a6⟩ := newMay_get h
 have hb : bits.toNat ≤ 3 := by omega
 have h8 : 2 ^ bits.toNat ≤ 2 ^ 3 := Nat.pow_le_pow_right (by omega) hb
 have h1 : 1 ≤ 2 ^ bits.toNat := Nat.one_le_two_pow
 unfold newM
 rw [h]
 exact ⟨rfl, h1, h8, (by show (List.replicate _ _).length ≤ 256; rw [List.length_replicate]; omega), rfl, Nat.zero_le _, fun x hx => absurd hx (List.not_mem_nil), fun x hx hk => by
   have := (List.mem_replicate.1 (show x ∈ List.replicate size.toNat (mkCe 0 0) from hx)).2
   subst this
   exact absurd hk (by decide), a3, a4⟩
/-! ### Read -/
/-- What stands in a sector. -/
def rdS (n : Nat) (m : Rim) (s : Nat) : List UInt8 := ((clusM n m (s / n) []).take (16 * (s % n) + 16)).drop (16 * (s % n))
def rdTo (n : Nat) (m : Rim) (a : Nat) : Nat → List UInt8
 | 0 => []
 | k + 1 => rdTo n m a k ++ rdS n m (a + k)
theorem rdS_len {n : Nat} {m : Rim} (h : MOK n m) {s : Nat} (hs : s < n * (mC m).length) : (rdS n m s).length = 16 := by
 have h1 := h.n1
 have hc : s / n < (mC m).length := Nat.div_lt_of_lt_mul hs
 have hr : s % n < n := Nat.mod_lt _ (by omega)
 unfold rdS
 rw [List.length_drop, List.length_take, clusM_len h hc]
 omega
theorem rdTo_len {n : Nat} {m : Rim} (h : MOK n m) {a : Nat} : ∀ k, a + k ≤ n * (mC m).length → (rdTo n m a k).length = 16 * k
 | 0, _ => rfl
 | k + 1, hk => by
   rw [rdTo, List.length_append, rdTo_len h k (by omega), rdS_len h (by omega)]
   omega
def readM (n : Nat) (m : Rim) (a l : Int) : List UInt8 × Int := if insE n (mC m).length a l = 0 then (rdTo n m a.toNat l.toNat, 0) else ([], insE n (mC m).length a l)
theorem insE_zero {n c : Nat} {a l : Int} (h : insE n c a l = 0) : 0 ≤ l ∧ 0 ≤ a ∧ a + l ≤ ((n * c : Nat) : Int) := by
 unfold insE at h
 generalize ((n * c : Nat) : Int) = N at *
 split at h
 · cases h
 · split at h
   · cases h
   · split at h
     · cases h
     · split at h
       · cases h
       · omega
@[reducible] def qrdK (a l e : Int) (x : List UInt8) (s : Int) : KL := [(1, vI a), (2, vI l), (3, vP 3), (8, .c (vErr e)), (9, vS x), (10, vI s)]
set_option maxHeartbeats 1000000 in
theorem mread_fn {n : Nat} {m : Rim} (h : MOK n m) (a l : Int) : Fn Tryz.prog 107 [imV m, vI a, vI l] [] [] (.tup [.one (.d (.str (readM n m a l).1)), vErr (readM n m a l).2]) [] := by
 have hn := h.n8
 have hn1 := h.n1
 have hc := h.cl
 have hb : n * (mC m).length ≤ 8 * 256 := Nat.mul_le_mul hn hc
 unfold readM
 refine Fn.of tblOK [] _ _ _ _ _ Tryz.func107 rfl rfl (by kernel_rfl) (by kernel_rfl) rfl (drawOK tblOK) rfl ?_
 refine ⟨rfl, ?_⟩
 refine ⟨_, _, _, _, minside_fn h a l, trivial, rfl, ?_⟩
 show TrQ _ _ _ _ _ _ _
 by_cases he : insE n (mC m).length a l = 0
 · rw [if_pos he]
   obtain ⟨b1, b2, b3⟩ := insE_zero he
   refine TrQ.loop tblOK (drawOK tblOK) [] (by kernel_rfl) (X := Nat) (fun k => qrdK a l (insE n (mC m).length a l) (rdTo n m a.toNat k) (a + (k : Nat))) (fun _ => [(3, .cells (imL m))]) (fun k => (k : Int) ≤ l) (fun k => l.toNat - k) 0 b1 ?_ ?_
   · refine Le.sub ⟨rfl, rfl, rfl, rfl, rfl, ?_, trivial⟩ ⟨rfl, trivial⟩
     show a = a + ((0 : Nat) : Int)
     omega
   intro k hk
   refine ⟨fun _ => ?_, fun h0 => absurd he (of_decide_eq_false h0)⟩
   refine ⟨by omega, ?_⟩
   refine ⟨fun h1 => ?_, fun h1 => ?_⟩
   · have h1 : a + (k : Nat) < a + l := of_decide_eq_true h1
     obtain ⟨s, hs⟩ : ∃ s : Nat, a + (k : Nat) = (s : Int) := ⟨(a + (k : Nat)).toNat, by omega⟩
     have hsk : a.toNat + k = s := by omega
     have hs2 : s < n * (mC m).length := by omega
     have hq : ((s : Nat) : Int) / mN m = ((s / n : Nat) : Int) := by rw [h.nm]; exact (Int.natCast_ediv _ _).symm
     have hr : ((s : Nat) : Int) % mN m = ((s % n : Nat) : Int) := by rw [h.nm]; exact (Int.natCast_emod _ _).symm
     have hq2 : s / n < (mC m).length := Nat.div_lt_of_lt_mul hs2
     have hr2 : s % n < n := Nat.mod_lt _ (by omega)
     have e1 := rdTo_len h (a := a.toNat) k (by omega)
     have e2 := rdS_len h hs2
     have e6 : rdTo n m a.toNat (k + 1) = rdTo n m a.toNat k ++ rdS n m s := by rw [rdTo, hsk]
     have hnm := h.nm
     unfold rdS at e2 e6
     generalize s / n = Q at *
     generalize s % n = R at *
     rw [hs]
     have z1 : (0 : Int) ≤ ((s : Nat) : Int) ∧ (0 : Int) < mN m := by omega
     have z2 : -9223372036854775808 ≤ ((s : Nat) : Int) % mN m ∧ ((s : Nat) : Int) % mN m ≤ 9223372036854775807 := by rw [hr]; omega
     have z3 : -9223372036854775808 ≤ ((s : Nat) : Int) / mN m ∧ ((s : Nat) : Int) / mN m ≤ 9223372036854775807 := by rw [hq]; omega
     refine ⟨z1, z2, ?_⟩
     refine ⟨z1, z3, ?_⟩
     rw [hq, hr]
     refine ⟨_, _, _, _, Fn.arg (args := [imV m, vI ((Q : Nat) : Int), v1 .nils]) (mclus_fn h hq2 [] (by decide)) ⟨⟨rfl, rfl, rfl, rfl, rfl, trivial⟩, rfl, rfl, trivial⟩, trivial, rfl, ?_⟩
     have hl := clusM_len h hq2 []
     have q1 : -9223372036854775808 ≤ 16 * ((R : Nat) : Int) ∧ 16 * ((R : Nat) : Int) ≤ 9223372036854775807 := by omega
     have q2 : -9223372036854775808 ≤ 16 * ((R : Nat) : Int) + 16 ∧ 16 * ((R : Nat) : Int) + 16 ≤ 9223372036854775807 := by omega
     have q4 : 0 ≤ 16 * ((R : Nat) : Int) ∧ 16 * ((R : Nat) : Int) ≤ 16 * ((R : Nat) : Int) + 16 ∧ 16 * ((R : Nat) : Int) + 16 ≤ (((clusM n m Q []).length : Nat) : Int) := by omega
     refine ⟨q1, q1, q2, q4, ?_⟩
     have e7 : (16 * ((R : Nat) : Int) + 16).toNat = 16 * R + 16 := by omega
     have e8 : (16 * ((R : Nat) : Int)).toNat = 16 * R := by omega
     have e5 : (rdTo n m a.toNat k).length + (((clusM n m Q []).take (16 * ((R : Nat) : Int) + 16).toNat).drop (16 * ((R : Nat) : Int)).toNat).length ≤ 4294967296 := by rw [e7, e8]; omega
     refine ⟨e5, ?_⟩
     refine ⟨rfl, ?_⟩
     refine ⟨by omega, k + 1, by omega, by omega, Le.sub ⟨rfl, rfl, rfl, rfl, ?_, ?_, trivial⟩ ⟨rfl, trivial⟩⟩
     · rw [e6, e7, e8]
       rfl
     · show (s : Int) + 1 = a + ((k + 1 : Nat) : Int)
       omega
   · have h1 : ¬ a + (k : Nat) < a + l := of_decide_eq_false h1
     have hk1 : k = l.toNat := by omega
     subst hk1
     exact ⟨_, _, _, Le.refl _ _, rfl, ⟨rfl, he, trivial⟩, trivial, rfl⟩
 · rw [if_neg he]
   refine TrQ.loop tblOK (drawOK tblOK) [] (by kernel_rfl) (X := Unit) (fun _ => qrdK a l (insE n (mC m).length a l) [] a) (fun _ => [(3, .cells (imL m))]) (fun _ => True) (fun _ => 0) () trivial ?_ ?_
   · exact Le.sub ⟨rfl, rfl, rfl, rfl, rfl, rfl, trivial⟩ ⟨rfl, trivial⟩
   rintro ⟨⟩ -
   refine ⟨fun h0 => absurd (of_decide_eq_true h0) he, fun _ => ?_⟩
   exact ⟨_, _, _, Le.refl _ _, rfl, ⟨rfl, rfl, trivial⟩, trivial, rfl⟩
/-! ### Discard -/
def dcTo (n a l : Nat) (m : Rim) : Nat → Rim
 | 0 => m
 | k + 1 => if insTo n k a l n = n then setM (dcTo n a l m k) k (mkCe 0 0) else dcTo n a l m k
theorem dcTo_cl (n a l : Nat) (m : Rim) : ∀ k, (mC (dcTo n a l m k)).length = (mC m).length
 | 0 => rfl
 | k + 1 => by
   have := dcTo_cl n a l m k
   unfold dcTo
   split
   · show ((mC (dcTo n a l m k)).set _ _).length = _
     rw [List.length_set, this]
   · exact this
theorem MOK.dc {n : Nat} {m : Rim} (h : MOK n m) (a l : Nat) : ∀ k, MOK n (dcTo n a l m k)
 | 0 => h
 | k + 1 => by
   unfold dcTo
   split
   · exact (MOK.dc h a l k).set k (by decide)
   · exact MOK.dc h a l k
def discM (n : Nat) (m : Rim) (a l : Int) : Rim × Int := if insE n (mC m).length a l = 0 then (dcTo n a.toNat l.toNat m (mC m).length, 0) else (m, insE n (mC m).length a l)
@[reducible] def dsK (a l e : Int) (k : Nat) : KL := [(1, vI a), (2, vI l), (3, vP 3), (6, vP 6), (8, .c (vErr e)), (9, vI (k : Nat))]
@[reducible] def dsZ (m : Rim) : BL := [(3, .cells (imL m)), (6, .cells tbl.t104.zero)]
set_option maxHeartbeats 1000000 in
theorem mdisc_fn {n : Nat} {m : Rim} (h : MOK n m) (a l : Int) : Fn Tryz.prog 123 [imV m, vI a, vI l] [] [] (.tup [.agg (imL (discM n m a l).1), vErr (discM n m a l).2]) [] := by
 have hn := h.n8
 have hn1 := h.n1
 have hc := h.cl
 have hb : n * (mC m).length ≤ 8 * 256 := Nat.mul_le_mul hn hc
 unfold discM
 refine Fn.of tblOK [] _ _ _ _ _ Tryz.func123 rfl rfl (by kernel_rfl) (by kernel_rfl) rfl (drawOK tblOK) rfl ?_
 refine ⟨rfl, ?_⟩
 refine ⟨rfl, ?_⟩
 refine ⟨_, _, _, _, minside_fn h a l, trivial, rfl, ?_⟩
 show TrQ _ _ _ _ _ _ _
 by_cases he : insE n (mC m).length a l = 0
 · rw [if_pos he]
   obtain ⟨b1, b2, b3⟩ := insE_zero he
   refine TrQ.loop tblOK (drawOK tblOK) [] (by kernel_rfl) (X := Nat) (fun k => dsK a l (insE n (mC m).length a l) k) (fun k => dsZ (dcTo n a.toNat l.toNat m k)) (fun k => k ≤ (mC m).length) (fun k => (mC m).length - k) 0 (Nat.zero_le _) ?_ ?_
   · exact Le.sub ⟨rfl, rfl, rfl, rfl, rfl, rfl, trivial⟩ ⟨rfl, rfl, trivial⟩
   intro k hk
   have hcl := dcTo_cl n a.toNat l.toNat m k
   have hM := h.dc a.toNat l.toNat k
   refine ⟨fun h1 => ?_, fun h1 => ?_⟩
   · have h1 : ((k : Nat) : Int) < (((mC (dcTo n a.toNat l.toNat m k)).length : Nat) : Int) := of_decide_eq_true h1
     rw [hcl] at h1
     refine ⟨fun _ => ?_, fun h0 => absurd he (of_decide_eq_false h0)⟩
     refine ⟨_, _, _, _, Fn.arg (args := [imV (dcTo n a.toNat l.toNat m k), vI (k : Int), vI a, vI l]) (minsC_fn hM (c := k) (a := a.toNat) (l := l.toNat) (by omega) (by omega) (by omega)) ⟨⟨rfl, rfl, rfl, rfl, rfl, trivial⟩, rfl, (Int.toNat_of_nonneg b2).symm, (Int.toNat_of_nonneg b1).symm, trivial⟩, trivial, rfl, ?_⟩
     refine ⟨rfl, fun h2 => ?_, fun h2 => ?_⟩
     · have h2 : ((insTo n k a.toNat l.toNat n : Nat) : Int) = mN (dcTo n a.toNat l.toNat m k) := of_decide_eq_true h2
       rw [hM.nm] at h2
       have e : dcTo n a.toNat l.toNat m (k + 1) = setM (dcTo n a.toNat l.toNat m k) k (mkCe 0 0) := if_pos (by omega)
       refine ⟨_, _, _, _, mset_fn (dcTo n a.toNat l.toNat m k) (by omega) (by omega) (mkCe 0 0), trivial, rfl, ?_⟩
       refine ⟨by omega, k + 1, by omega, by omega, Le.sub ⟨rfl, rfl, rfl, rfl, rfl, rfl, trivial⟩ ⟨?_, rfl, trivial⟩⟩
       rw [e]
       rfl
     · have h2 : ¬ ((insTo n k a.toNat l.toNat n : Nat) : Int) = mN (dcTo n a.toNat l.toNat m k) := of_decide_eq_false h2
       rw [hM.nm] at h2
       have e : dcTo n a.toNat l.toNat m (k + 1) = dcTo n a.toNat l.toNat m k := if_neg (by omega)
       refine ⟨by omega, k + 1, by omega, by omega, Le.sub ⟨rfl, rfl, rfl, rfl, rfl, rfl, trivial⟩ ⟨?_, rfl, trivial⟩⟩
       rw [e]
       rfl
   · have h1 : ¬ ((k : Nat) : Int) < (((mC (dcTo n a.toNat l.toNat m k)).length : Nat) : Int) := of_decide_eq_false h1
     rw [hcl] at h1
     have hk1 : k = (mC m).length := by omega
     subst hk1
     exact ⟨_, _, _, Le.refl _ _, rfl, ⟨⟨rfl, rfl, rfl, rfl, rfl, trivial⟩, he, trivial⟩, trivial, rfl⟩
 · rw [if_neg he]
   refine TrQ.loop tblOK (drawOK tblOK) [] (by kernel_rfl) (X := Unit) (fun _ => dsK a l (insE n (mC m).length a l) 0) (fun _ => dsZ m) (fun _ => True) (fun _ => 0) () trivial ?_ ?_
   · exact Le.sub ⟨rfl, rfl, rfl, rfl, rfl, rfl, trivial⟩ ⟨rfl, rfl, trivial⟩
   rintro ⟨⟩ -
   refine ⟨fun h1 => ?_, fun _ => ?_⟩
   · refine ⟨fun h0 => absurd (of_decide_eq_true h0) he, fun _ => ?_⟩
     exact ⟨_, _, _, Le.refl _ _, rfl, ⟨⟨rfl, rfl, rfl, rfl, rfl, trivial⟩, rfl, trivial⟩, trivial, rfl⟩
   · exact ⟨_, _, _, Le.refl _ _, rfl, ⟨⟨rfl, rfl, rfl, rfl, rfl, trivial⟩, rfl, trivial⟩, trivial, rfl⟩
end Go.Proofs.YteoamepgonpdlaaGreat
/-!
  The document's image (layer 12): Write, Do.
-/
namespace Go.Proofs.YteoamepgonpdlaaGreat
set_option linter.unusedVariables false
set_option linter.unusedSimpArgs false
set_option maxRecDepth 10000
open Go.RowKit Go.Proofs
def kdM (m : Rim) (c : Nat) : Int := ceK ((mC m).getD c (mkCe 0 0))
theorem kdM_at {m : Rim} {c : Nat} (hc : c < (mC m).length) : kdM m c = ceK (mC m)[c] := by
 unfold kdM
 rw [List.getD_eq_getElem?_getD, List.getElem?_eq_getElem hc]
 rfl
/-- Does a cluster want one more? -/
def qwants (n a l : Nat) (zero : Bool) (m : Rim) (c : Nat) : Bool :=
 decide (0 < insTo n c a l n) && !(zero && (decide (insTo n c a l n = n) || decide (kdM m c = 2))) && !qown m c
def needTo (n a l : Nat) (zero : Bool) (m : Rim) : Nat → Nat
 | 0 => 0
 | k + 1 => match qwants n a l zero m k with
   | true => needTo n a l zero m k + 1
   | false => needTo n a l zero m k
theorem needTo_le (n a l : Nat) (zero : Bool) (m : Rim) : ∀ k, needTo n a l zero m k ≤ k
 | 0 => Nat.le_refl _
 | k + 1 => by
   have := needTo_le n a l zero m k
   unfold needTo
   split <;> omega
def stepW (n a l : Nat) (b : List UInt8) (bel : List (List UInt8)) (zero : Bool) (m : Rim) (c : Nat) : Rim :=
 if insTo n c a l n = 0 then m
 else if zero = true ∧ insTo n c a l n < n ∧ kdM m c = 2 then m
 else if zero = true ∧ insTo n c a l n = n then setM m c (mkCe 2 0)
 else putM m c (ldTo n c a (clusM n m c bel) b n)
def wTo (n a l : Nat) (b : List UInt8) (bel : List (List UInt8)) (zero : Bool) (m : Rim) : Nat → Rim
 | 0 => m
 | k + 1 => stepW n a l b bel zero (wTo n a l b bel zero m k) k
theorem stepW_cl (n a l : Nat) (b : List UInt8) (bel : List (List UInt8)) (zero : Bool) (m : Rim) (c : Nat) : (mC (stepW n a l b bel zero m c)).length = (mC m).length := by
 unfold stepW
 split
 · rfl
 · split
   · rfl
   · split
     · show ((mC m).set _ _).length = _; rw [List.length_set]
     · exact putM_cl ..
theorem stepW_dl (n a l : Nat) (b : List UInt8) (bel : List (List UInt8)) (zero : Bool) (m : Rim) (c : Nat) : (mD (stepW n a l b bel zero m c)).length ≤ (mD m).length + 1 := by
 unfold stepW
 split
 · exact Nat.le_succ _
 · split
   · exact Nat.le_succ _
   · split
     · exact Nat.le_succ _
     · exact putM_dl ..
theorem wTo_cl (n a l : Nat) (b : List UInt8) (bel : List (List UInt8)) (zero : Bool) (m : Rim) : ∀ k, (mC (wTo n a l b bel zero m k)).length = (mC m).length
 | 0 => rfl
 | k + 1 => by rw [wTo, stepW_cl, wTo_cl]
theorem wTo_dl (n a l : Nat) (b : List UInt8) (bel : List (List UInt8)) (zero : Bool) (m : Rim) : ∀ k, (mD (wTo n a l b bel zero m k)).length ≤ (mD m).length + k
 | 0 => Nat.le_refl _
 | k + 1 => by
   have h1 := stepW_dl n a l b bel zero (wTo n a l b bel zero m k) k
   have h2 := wTo_dl n a l b bel zero m k
   rw [wTo]
   omega
theorem MOK.step {n : Nat} {m : Rim} (h : MOK n m) (a l : Nat) (b : List UInt8) (bel : List (List UInt8)) (zero : Bool) {c : Nat} (hc : c < (mC m).length) (hd : (mD m).length + 1 ≤ 100000) : MOK n (stepW n a l b bel zero m c) := by
 unfold stepW
 split
 · exact h
 · split
   · exact h
   · split
     · exact h.set c (by decide)
     · refine h.put c ?_ hd
       exact ldTo_len n (Nat.le_of_eq (clusM_len h hc bel).symm)
theorem MOK.wr {n : Nat} {m : Rim} (h : MOK n m) (a l : Nat) (b : List UInt8) (bel : List (List UInt8)) (zero : Bool) (hd : (mD m).length + 256 ≤ 100000) : ∀ k, k ≤ (mC m).length → MOK n (wTo n a l b bel zero m k)
 | 0, _ => h
 | k + 1, hk => by
   have h1 := h.wr a l b bel zero hd k (by omega)
   have h2 := wTo_dl n a l b bel zero m k
   have h3 := h.cl
   exact h1.step a l b bel zero (by rw [wTo_cl]; omega) (by omega)
def writeM (n : Nat) (m : Rim) (a : Int) (b : List UInt8) (bel : List (List UInt8)) (zero : Bool) : Rim × Int :=
 if b.length % 16 ≠ 0 then (m, 1)
 else if insE n (mC m).length a (b.length / 16 : Nat) = 0 then
   (if freeM m < (needTo n a.toNat (b.length / 16) zero m (mC m).length : Nat) then (m, 120) else (wTo n a.toNat (b.length / 16) b bel zero m (mC m).length, 0))
 else (m, insE n (mC m).length a (b.length / 16 : Nat))
@[reducible] def wK0 (a : Int) (b : List UInt8) (bel : List (List UInt8)) (zero : Bool) (l : Nat) (x k : Nat) : KL := [(1, vI a), (2, vS b), (3, vL .str bel), (4, vB zero), (5, vP 5), (10, vP 10), (12, vI (l : Nat)), (14, vI (x : Nat)), (15, vI (k : Nat))]
@[reducible] def wK1 (a : Int) (b : List UInt8) (bel : List (List UInt8)) (zero : Bool) (l : Nat) (k : Nat) : KL := [(1, vI a), (2, vS b), (3, vL .str bel), (4, vB zero), (5, vP 5), (10, vP 10), (12, vI (l : Nat)), (18, vI (k : Nat))]
@[reducible] def wZ (m : Rim) : BL := [(5, .cells (imL m)), (10, .cells tbl.t104.zero)]
set_option maxHeartbeats 4000000 in
theorem mwrite_fn {n : Nat} {m : Rim} (h : MOK n m) (a : Int) (b : List UInt8) (bel : List (List UInt8)) (zero : Bool) (hb : b.length ≤ 1000000) (hbl : bel.length ≤ 1000000) (hd : (mD m).length + 256 ≤ 100000) :
   Fn Tryz.prog 122 [imV m, vI a, vS b, vL .str bel, vB zero] [] [] (.tup [.agg (imL (writeM n m a b bel zero).1), vErr (writeM n m a b bel zero).2]) [] := by
 have hn := h.n8
 have hn1 := h.n1
 have hc := h.cl
 have hnc : n * (mC m).length ≤ 8 * 256 := Nat.mul_le_mul hn hc
 have hdl := h.dl
 unfold writeM
 refine Fn.of tblOK [] _ _ _ _ _ Tryz.func122 rfl rfl (by kernel_rfl) (by kernel_rfl) rfl (drawOK tblOK) rfl ?_
 refine ⟨rfl, ?_⟩
 refine ⟨rfl, ?_⟩
 have d1 : (0 : Int) ≤ ((b.length : Nat) : Int) ∧ (0 : Int) < 16 := by omega
 have d2 : -9223372036854775808 ≤ ((b.length : Nat) : Int) % 16 ∧ ((b.length : Nat) : Int) % 16 ≤ 9223372036854775807 := by omega
 have d3 : -9223372036854775808 ≤ ((b.length : Nat) : Int) / 16 ∧ ((b.length : Nat) : Int) / 16 ≤ 9223372036854775807 := by omega
 refine ⟨d1, d2, ?_⟩
 refine ⟨fun c1 => ?_, fun c1 => ?_⟩
 · have c1 : (!decide (((b.length : Nat) : Int) % 16 = 0)) = true := c1
   have c1 : ¬ ((b.length : Nat) : Int) % 16 = 0 := by simpa using c1
   rw [if_pos (by omega)]
   exact ⟨_, _, _, Le.refl _ _, rfl, ⟨⟨rfl, rfl, rfl, rfl, rfl, trivial⟩, rfl, trivial⟩, trivial, rfl⟩
 have c1 : (!decide (((b.length : Nat) : Int) % 16 = 0)) = false := c1
 have c1 : ((b.length : Nat) : Int) % 16 = 0 := by simpa using c1
 rw [if_neg (by omega)]
 refine ⟨d1, d3, ?_⟩
 have e16 : ((b.length : Nat) : Int) / 16 = ((b.length / 16 : Nat) : Int) := by omega
 rw [e16]
 obtain ⟨l, hl⟩ : ∃ l : Nat, l = b.length / 16 := ⟨_, rfl⟩
 rw [← hl] at *
 refine ⟨_, _, _, _, minside_fn h a (l : Nat), trivial, rfl, ?_⟩
 refine ⟨fun c2 => ?_, fun c2 => ?_⟩
 · have c2 : (!decide (insE n (mC m).length a (l : Nat) = 0)) = true := c2
   have c2 : ¬ insE n (mC m).length a (l : Nat) = 0 := by simpa using c2
   rw [if_neg c2]
   exact ⟨_, _, _, Le.refl _ _, rfl, ⟨⟨rfl, rfl, rfl, rfl, rfl, trivial⟩, rfl, trivial⟩, trivial, rfl⟩
 have c2 : (!decide (insE n (mC m).length a (l : Nat) = 0)) = false := c2
 have c2 : insE n (mC m).length a (l : Nat) = 0 := by simpa using c2
 rw [if_pos c2]
 obtain ⟨b1, b2, b3⟩ := insE_zero c2
 obtain ⟨A, hA⟩ : ∃ A : Nat, a = (A : Int) := ⟨a.toNat, by omega⟩
 subst hA
 rw [Int.toNat_natCast]
 show TrQ _ _ _ _ _ _ _
 refine TrQ.loop tblOK (drawOK tblOK) [] (by kernel_rfl) (X := Nat) (fun k => wK0 A b bel zero l (needTo n A l zero m k) k) (fun _ => wZ m) (fun k => k ≤ (mC m).length) (fun k => (mC m).length - k) 0 (Nat.zero_le _) ?_ ?_
 · exact Le.sub ⟨rfl, rfl, rfl, rfl, rfl, rfl, rfl, rfl, rfl, trivial⟩ ⟨rfl, rfl, trivial⟩
 · intro k hk
   have hu := needTo_le n A l zero m k
   refine ⟨fun h1 => ?_, fun h1 => ?_⟩
   · have h1 : ((k : Nat) : Int) < (((mC m).length : Nat) : Int) := of_decide_eq_true h1
     have hk1 : k < (mC m).length := by omega
     have hkd := kdM_at hk1
     have e : needTo n A l zero m (k + 1) = match qwants n A l zero m k with
       | true => needTo n A l zero m k + 1
       | false => needTo n A l zero m k := rfl
     have stay : qwants n A l zero m k = false → ((needTo n A l zero m k : Nat) : Int) = ((needTo n A l zero m (k + 1) : Nat) : Int) := fun hw => by rw [e, hw]
     have more : qwants n A l zero m k = true → ((needTo n A l zero m k : Nat) : Int) + 1 = ((needTo n A l zero m (k + 1) : Nat) : Int) := fun hw => by rw [e, hw]; rfl
     have r1 : -9223372036854775808 ≤ ((k : Nat) : Int) + 1 ∧ ((k : Nat) : Int) + 1 ≤ 9223372036854775807 := by omega
     have r2 : -9223372036854775808 ≤ ((needTo n A l zero m k : Nat) : Int) + 1 ∧ ((needTo n A l zero m k : Nat) : Int) + 1 ≤ 9223372036854775807 := by omega
     have hown := mown_fn h hk1
     refine ⟨_, _, _, _, minsC_fn h (c := k) (a := A) (l := l) (by omega) (by omega) (by omega), trivial, rfl, ?_⟩
     clear e
     refine ⟨fun z1 => ?_, fun z1 => ?_⟩
     · have z1 : zero = true := z1
       refine ⟨fun f1 => ?_, fun f1 => ?_⟩
       · have f1 : ((insTo n k A l n : Nat) : Int) = mN m := of_decide_eq_true f1
         have f1 : insTo n k A l n = n := by rw [h.nm] at f1; omega
         have hw : qwants n A l zero m k = false := by unfold qwants; rw [z1, f1]; simp
         refine ⟨fun g1 => ?_, fun g1 => ?_⟩
         · exact ⟨r1, k + 1, by omega, by omega, Le.sub ⟨rfl, rfl, rfl, rfl, rfl, rfl, rfl, stay hw, rfl, trivial⟩ ⟨rfl, rfl, trivial⟩⟩
         · exact ⟨r1, k + 1, by omega, by omega, Le.sub ⟨rfl, rfl, rfl, rfl, rfl, rfl, rfl, stay hw, rfl, trivial⟩ ⟨rfl, rfl, trivial⟩⟩
       · have f1 : ¬ ((insTo n k A l n : Nat) : Int) = mN m := of_decide_eq_false f1
         have f1 : ¬ insTo n k A l n = n := by rw [h.nm] at f1; omega
         refine ⟨by omega, (mC m)[k], lgAt (n := k) hk1, ?_⟩
         refine ⟨fun g1 => ?_, fun g1 => ?_⟩
         · have g1 : (0 : Int) < ((insTo n k A l n : Nat) : Int) := of_decide_eq_true g1
           refine ⟨fun g2 => ?_, fun g2 => ?_⟩
           · have g2 : (!decide (ceK (mC m)[k] = 2)) = true := g2
             have g2 : ¬ kdM m k = 2 := by rw [hkd]; simpa using g2
             refine ⟨_, _, _, _, hown, trivial, rfl, ?_⟩
             refine ⟨fun g3 => ?_, fun g3 => ?_⟩
             · have g3 : (!qown m k) = true := g3
               have hw : qwants n A l zero m k = true := by unfold qwants; rw [z1, g3, decide_eq_true (show 0 < insTo n k A l n by omega), decide_eq_false f1, decide_eq_false g2]; rfl
               exact ⟨r2, r1, k + 1, by omega, by omega, Le.sub ⟨rfl, rfl, rfl, rfl, rfl, rfl, rfl, more hw, rfl, trivial⟩ ⟨rfl, rfl, trivial⟩⟩
             · have g3 : (!qown m k) = false := g3
               have hw : qwants n A l zero m k = false := by unfold qwants; rw [g3, Bool.and_false]
               exact ⟨r1, k + 1, by omega, by omega, Le.sub ⟨rfl, rfl, rfl, rfl, rfl, rfl, rfl, stay hw, rfl, trivial⟩ ⟨rfl, rfl, trivial⟩⟩
           · have g2 : (!decide (ceK (mC m)[k] = 2)) = false := g2
             have g2 : kdM m k = 2 := by rw [hkd]; simpa using g2
             have hw : qwants n A l zero m k = false := by unfold qwants; rw [z1, decide_eq_true g2]; simp
             exact ⟨r1, k + 1, by omega, by omega, Le.sub ⟨rfl, rfl, rfl, rfl, rfl, rfl, rfl, stay hw, rfl, trivial⟩ ⟨rfl, rfl, trivial⟩⟩
         · have g1 : ¬ (0 : Int) < ((insTo n k A l n : Nat) : Int) := of_decide_eq_false g1
           have hw : qwants n A l zero m k = false := by unfold qwants; rw [decide_eq_false (show ¬ 0 < insTo n k A l n by omega)]; simp
           exact ⟨r1, k + 1, by omega, by omega, Le.sub ⟨rfl, rfl, rfl, rfl, rfl, rfl, rfl, stay hw, rfl, trivial⟩ ⟨rfl, rfl, trivial⟩⟩
     · have z1 : zero = false := z1
       refine ⟨fun g1 => ?_, fun g1 => ?_⟩
       · have g1 : (0 : Int) < ((insTo n k A l n : Nat) : Int) := of_decide_eq_true g1
         refine ⟨_, _, _, _, hown, trivial, rfl, ?_⟩
         refine ⟨fun g3 => ?_, fun g3 => ?_⟩
         · have g3 : (!qown m k) = true := g3
           have hw : qwants n A l zero m k = true := by unfold qwants; rw [z1, g3, decide_eq_true (show 0 < insTo n k A l n by omega)]; rfl
           exact ⟨r2, r1, k + 1, by omega, by omega, Le.sub ⟨rfl, rfl, rfl, rfl, rfl, rfl, rfl, more hw, rfl, trivial⟩ ⟨rfl, rfl, trivial⟩⟩
         · have g3 : (!qown m k) = false := g3
           have hw : qwants n A l zero m k = false := by unfold qwants; rw [g3, Bool.and_false]
           exact ⟨r1, k + 1, by omega, by omega, Le.sub ⟨rfl, rfl, rfl, rfl, rfl, rfl, rfl, stay hw, rfl, trivial⟩ ⟨rfl, rfl, trivial⟩⟩
       · have g1 : ¬ (0 : Int) < ((insTo n k A l n : Nat) : Int) := of_decide_eq_false g1
         have hw : qwants n A l zero m k = false := by unfold qwants; rw [decide_eq_false (show ¬ 0 < insTo n k A l n by omega)]; simp
         exact ⟨r1, k + 1, by omega, by omega, Le.sub ⟨rfl, rfl, rfl, rfl, rfl, rfl, rfl, stay hw, rfl, trivial⟩ ⟨rfl, rfl, trivial⟩⟩
   · have h1 : ¬ ((k : Nat) : Int) < (((mC m).length : Nat) : Int) := of_decide_eq_false h1
     have hk1 : k = (mC m).length := by omega
     subst hk1
     refine ⟨_, _, _, _, mfree_fn h, trivial, rfl, ?_⟩
     refine ⟨fun c3 => ?_, fun c3 => ?_⟩
     · have c3 : freeM m < ((needTo n A l zero m (mC m).length : Nat) : Int) := of_decide_eq_true c3
       rw [if_pos c3]
       exact ⟨_, _, _, Le.refl _ _, rfl, ⟨⟨rfl, rfl, rfl, rfl, rfl, trivial⟩, rfl, trivial⟩, trivial, rfl⟩
     have c3 : ¬ freeM m < ((needTo n A l zero m (mC m).length : Nat) : Int) := of_decide_eq_false c3
     rw [if_neg c3]
     show TrQ _ _ _ _ _ _ _
     refine TrQ.loop tblOK (drawOK tblOK) [] (by kernel_rfl) (X := Nat) (fun k => wK1 A b bel zero l k) (fun k => wZ (wTo n A l b bel zero m k)) (fun k => k ≤ (mC m).length) (fun k => (mC m).length - k) 0 (Nat.zero_le _) ?_ ?_
     · exact Le.sub ⟨rfl, rfl, rfl, rfl, rfl, rfl, rfl, rfl, trivial⟩ ⟨rfl, rfl, trivial⟩
     intro k hk
     have hcl := wTo_cl n A l b bel zero m k
     have hM := h.wr A l b bel zero hd k hk
     have hdk := wTo_dl n A l b bel zero m k
     have hcl3 := hM.cl
     have e : wTo n A l b bel zero m (k + 1) = stepW n A l b bel zero (wTo n A l b bel zero m k) k := rfl
     generalize hX : wTo n A l b bel zero m k = X at *
     refine ⟨fun h1 => ?_, fun h1 => ?_⟩
     · have h1 : ((k : Nat) : Int) < (((mC X).length : Nat) : Int) := of_decide_eq_true h1
       have hk1 : k < (mC X).length := by omega
       have hkd := kdM_at hk1
       have r1 : -9223372036854775808 ≤ ((k : Nat) : Int) + 1 ∧ ((k : Nat) : Int) + 1 ≤ 9223372036854775807 := by omega
       have nx : ∀ Y, stepW n A l b bel zero X k = Y → wTo n A l b bel zero m (k + 1) = Y := fun Y hY => e.trans hY
       have hclu := mclus_fn hM hk1 bel hbl
       have hcll := clusM_len hM hk1 bel
       have hlaid := mlaid_fn hM (c := k) (a := A) (x := clusM n X k bel) (b := b) (by omega) (by omega) hcll hb
       have hput := mput_fn hM hk1 (ldTo n k A (clusM n X k bel) b n)
       have hset := mset_fn X (c := k) (by omega) hk1 (mkCe 2 0)
       have done : ∀ Y, stepW n A l b bel zero X k = Y → some (Ch.cells (imL Y)) = some (Ch.cells (imL (wTo n A l b bel zero m (k + 1)))) := fun Y hY => by rw [nx Y hY]
       clear e
       refine ⟨_, _, _, _, minsC_fn hM (c := k) (a := A) (l := l) (by omega) (by omega) (by omega), trivial, rfl, ?_⟩
       refine ⟨fun f0 => ?_, fun f0 => ?_⟩
       · have f0 : ((insTo n k A l n : Nat) : Int) = 0 := of_decide_eq_true f0
         have hs : stepW n A l b bel zero X k = X := if_pos (by omega)
         exact ⟨r1, k + 1, by omega, by omega, Le.sub ⟨rfl, rfl, rfl, rfl, rfl, rfl, rfl, rfl, trivial⟩ ⟨done X hs, rfl, trivial⟩⟩
       have f0 : ¬ ((insTo n k A l n : Nat) : Int) = 0 := of_decide_eq_false f0
       have s0 : stepW n A l b bel zero X k = if zero = true ∧ insTo n k A l n < n ∧ kdM X k = 2 then X else if zero = true ∧ insTo n k A l n = n then setM X k (mkCe 2 0) else putM X k (ldTo n k A (clusM n X k bel) b n) := if_neg (by omega)
       refine ⟨fun z1 => ?_, fun z1 => ?_⟩
       · have z1 : zero = true := z1
         refine ⟨fun f1 => ?_, fun f1 => ?_⟩
         · have f1 : ((insTo n k A l n : Nat) : Int) < mN X := of_decide_eq_true f1
           rw [hM.nm] at f1
           refine ⟨by omega, (mC X)[k], lgAt (n := k) hk1, ?_⟩
           refine ⟨fun f2 => ?_, fun f2 => ?_⟩
           · have f2 : ceK (mC X)[k] = 2 := of_decide_eq_true f2
             have hs : stepW n A l b bel zero X k = X := by rw [s0, if_pos ⟨z1, by omega, by rw [hkd]; exact f2⟩]
             exact ⟨r1, k + 1, by omega, by omega, Le.sub ⟨rfl, rfl, rfl, rfl, rfl, rfl, rfl, rfl, trivial⟩ ⟨done X hs, rfl, trivial⟩⟩
           · have f2 : ¬ ceK (mC X)[k] = 2 := of_decide_eq_false f2
             rw [if_neg (fun q => f2 (by rw [← hkd]; exact q.2.2)), if_neg (by omega)] at s0
             refine ⟨fun _ => ?_, fun z2 => absurd (z1.symm.trans z2) (by decide)⟩
             refine ⟨fun f3 => ?_, fun _ => ?_⟩
             · exfalso
               have f3 : ((insTo n k A l n : Nat) : Int) = mN X := of_decide_eq_true f3
               rw [hM.nm] at f3
               omega
             refine ⟨_, _, _, _, hclu, trivial, rfl, ?_⟩
             refine ⟨_, _, _, _, hlaid, trivial, rfl, ?_⟩
             refine ⟨_, _, _, _, hput, trivial, rfl, ?_⟩
             refine ⟨rfl, ?_⟩
             exact ⟨r1, k + 1, by omega, by omega, Le.sub ⟨rfl, rfl, rfl, rfl, rfl, rfl, rfl, rfl, trivial⟩ ⟨done _ s0, rfl, trivial⟩⟩
         · have f1 : ¬ ((insTo n k A l n : Nat) : Int) < mN X := of_decide_eq_false f1
           rw [hM.nm] at f1
           rw [if_neg (by omega)] at s0
           refine ⟨fun _ => ?_, fun z2 => absurd (z1.symm.trans z2) (by decide)⟩
           refine ⟨fun f3 => ?_, fun f3 => ?_⟩
           · have f3 : ((insTo n k A l n : Nat) : Int) = mN X := of_decide_eq_true f3
             rw [hM.nm] at f3
             rw [if_pos ⟨z1, by omega⟩] at s0
             refine ⟨_, _, _, _, hset, trivial, rfl, ?_⟩
             exact ⟨r1, k + 1, by omega, by omega, Le.sub ⟨rfl, rfl, rfl, rfl, rfl, rfl, rfl, rfl, trivial⟩ ⟨done _ s0, rfl, trivial⟩⟩
           · have f3 : ¬ ((insTo n k A l n : Nat) : Int) = mN X := of_decide_eq_false f3
             rw [hM.nm] at f3
             rw [if_neg (by omega)] at s0
             refine ⟨_, _, _, _, hclu, trivial, rfl, ?_⟩
             refine ⟨_, _, _, _, hlaid, trivial, rfl, ?_⟩
             refine ⟨_, _, _, _, hput, trivial, rfl, ?_⟩
             refine ⟨rfl, ?_⟩
             exact ⟨r1, k + 1, by omega, by omega, Le.sub ⟨rfl, rfl, rfl, rfl, rfl, rfl, rfl, rfl, trivial⟩ ⟨done _ s0, rfl, trivial⟩⟩
       · have z1 : zero = false := z1
         rw [if_neg (fun q => absurd (z1.symm.trans q.1) (by decide)), if_neg (fun q => absurd (z1.symm.trans q.1) (by decide))] at s0
         refine ⟨fun z2 => absurd (z1.symm.trans z2) (by decide), fun _ => ?_⟩
         refine ⟨_, _, _, _, hclu, trivial, rfl, ?_⟩
         refine ⟨_, _, _, _, hlaid, trivial, rfl, ?_⟩
         refine ⟨_, _, _, _, hput, trivial, rfl, ?_⟩
         refine ⟨rfl, ?_⟩
         exact ⟨r1, k + 1, by omega, by omega, Le.sub ⟨rfl, rfl, rfl, rfl, rfl, rfl, rfl, rfl, trivial⟩ ⟨done _ s0, rfl, trivial⟩⟩
     · have h1 : ¬ ((k : Nat) : Int) < (((mC X).length : Nat) : Int) := of_decide_eq_false h1
       have hk1 : k = (mC m).length := by omega
       subst hk1
       rw [hX]
       exact ⟨_, _, _, Le.refl _ _, rfl, ⟨⟨rfl, rfl, rfl, rfl, rfl, trivial⟩, rfl, trivial⟩, trivial, rfl⟩
end Go.Proofs.YteoamepgonpdlaaGreat
/-!
  Chains: Cluster, whatever is asked; how far one is away.
-/
namespace Go.Proofs.YteoamepgonpdlaaGreat
set_option linter.unusedVariables false
set_option linter.unusedSimpArgs false
set_option maxRecDepth 10000
open Go.RowKit Go.Proofs
/-! Chains: Cluster and Row, whatever is asked; an image's Size, Bits, Kind in the chain. -/
section
variable {bits room : Nat} {L : List Dsk}
def clC (bits : Nat) (L : List Dsk) (nm : List UInt8) (k : Int) : List UInt8 := match dk L nm with
 | none => []
 | some d => if 0 ≤ k ∧ k < (d.im.t.length : Nat) then cseen bits L nm (dpt L nm) k.toNat else []
theorem chcluster_fn (h : CS bits room L) (nm : List UInt8) (k : Int) : Fn Tryz.prog 16 [vP 1001, vS nm, vI k] (chB bits room L) [] (vL .u8 (clC bits L nm k)) (chB bits room L) := by
 unfold clC
 cases h0 : dk L nm with
 | none =>
   have hx : (mget (ku := .str) (vu := .adr) (chE L) nm).getD (dflt .adr) = none := by rw [cget, h0]; rfl
   simp only
   refine Fn.of tblOK [2,4] _ _ _ _ _ Tryz.func16 rfl rfl (by kernel_rfl) (by kernel_rfl) rfl (drawOK tblOK) rfl ?_
   show TrQ _ _ _ _ _ _ _
   refine TrQ.go tblOK (drawOK tblOK) [4] (by kernel_rfl) (Le.refl _ _) ?_
   refine ⟨fun b' hb => absurd (show (mget (ku := .str) (vu := .adr) (chE L) nm).getD (dflt .adr) = some b' from hb) (by rw [hx]; intro h; cases h), fun _ => ?_⟩
   exact ⟨_, _, _, Le.refl _ _, rfl, rfl, ⟨rfl, rfl, rfl, rfl, trivial⟩, rfl⟩
 | some d0 =>
   simp only
   split
   · rename_i hk
     have hd := h.dep nm
     have := cluster_in bits room L h.toChOK nm d0 h0 (dpt L nm) hd.1 (by omega) k.toNat (by omega)
     rwa [show ((k.toNat : Nat) : Int) = k by omega] at this
   · rename_i hk
     obtain ⟨ia, ia1, ia2⟩ := inf_of infAdr
     have hLd := h.toChN.D (dk_get h0).1
     have hLm := h.toChN.M (dk_get h0).1
     have hx : (mget (ku := .str) (vu := .adr) (chE L) nm).getD (dflt .adr) = some d0.ad := by rw [cget, h0]; rfl
     refine Fn.of tblOK [2,4] _ _ _ _ _ Tryz.func16 rfl rfl (by kernel_rfl) (by kernel_rfl) rfl (drawOK tblOK) rfl ?_
     show TrQ _ _ _ _ _ _ _
     refine TrQ.go tblOK (drawOK tblOK) [4] (by kernel_rfl) (Le.refl _ _) ?_
     refine ⟨fun b' hb => ?_, fun hb => absurd (show (mget (ku := .str) (vu := .adr) (chE L) nm).getD (dflt .adr) = none from hb) (by rw [hx]; intro h; cases h)⟩
     refine ⟨fun _ => ?_, fun h1 => ?_⟩
     · exact ⟨_, _, _, Le.refl _ _, rfl, rfl, ⟨rfl, rfl, rfl, rfl, trivial⟩, rfl⟩
     have h1 : ¬ k < 0 := of_decide_eq_false h1
     refine ⟨_, _, fun N => opOK_nilAdr (b := d0.ad) rfl (by exact adrV_eq hx) N, rfl, ?_⟩
     refine ⟨_, _, fun N => opOK_fieldAdr rfl Tryz.underlying130 rfl rfl ia1 (by rw [ia2]; decide) rfl N, rfl, ?_⟩
     refine ⟨_, _, fun N => opOK_loadRaw (q := 1003) rfl Tryz.underlying49 rfl rfl rfl hLd rfl N, rfl, ?_⟩
     refine ⟨_, _, _, _, imFn (isize_fn d0.im) hLm rfl rfl rfl rfl, ⟨rfl, trivial⟩, rfl, ?_⟩
     refine ⟨fun _ => ?_, fun h2 => ?_⟩
     · exact ⟨_, _, _, Le.refl _ _, rfl, rfl, ⟨rfl, rfl, rfl, rfl, trivial⟩, rfl⟩
     · exfalso
       have h2 : ¬ ((d0.im.t.length : Nat) : Int) ≤ k := of_decide_eq_false h2
       omega
/-- How many images one is away that is seen; 0: there is none. -/
def awy (bits : Nat) (L : List Dsk) (nm : List UInt8) (c : Nat) : Nat := (seenL bits L c (nm :: bl L (dpt L nm) nm) 0).2
def awyL (bits : Nat) (L : List Dsk) (nm : List UInt8) (n : Nat) : List Int := (List.range n).map fun c => ((awy bits L nm c : Nat) : Int)
theorem awyL_succ (bits : Nat) (L : List Dsk) (nm : List UInt8) (j : Nat) : awyL bits L nm (j + 1) = awyL bits L nm j ++ [((awy bits L nm j : Nat) : Int)] := by
 unfold awyL
 rw [List.range_succ, List.map_append]
 rfl
theorem awyL_len (bits : Nat) (L : List Dsk) (nm : List UInt8) (j : Nat) : (awyL bits L nm j).length = j := by
 unfold awyL
 rw [List.length_map, List.length_range]
end
end Go.Proofs.YteoamepgonpdlaaGreat
/-!
  Chains: what a disk reads, in plain words.
-/
namespace Go.Proofs.YteoamepgonpdlaaGreat
set_option linter.unusedVariables false
set_option linter.unusedSimpArgs false
set_option maxRecDepth 10000
open Go.RowKit Go.Proofs
section
variable {bits room : Nat} {L : List Dsk}
theorem down_known (h : CS bits room L) {nm : List UInt8} {k : Nat} (hd : Dn L nm k) (h0 : ∃ d, dk L nm = some d) : ∀ j, j ≤ k → ∃ e, dk L (downTo L j nm) = some e
 | 0, _ => h0
 | j + 1, hj => by
   obtain ⟨e, he⟩ := down_known h hd h0 j (by omega)
   have hat := dn_at hd j (by omega)
   rw [downTo_succ, he]
   simp only
   generalize hm : k - j = m at hat
   cases hat with
   | gone hg => rw [he] at hg; cases hg
   | base _ _ => omega
   | step h1 h2 _ =>
     rw [he] at h1
     injection h1 with h1
     subst h1
     exact h.kn e (dk_get he).1 h2
theorem known_ne (h : CS bits room L) {n : List UInt8} (hn : ∃ e, dk L n = some e) : n ≠ [] := by
 obtain ⟨e, he⟩ := hn
 rw [← (dk_get he).2]
 exact h.ne e (dk_get he).1
end
section
variable {bits : Nat} {L : List Dsk} {c : Nat}
theorem seenL_snd : ∀ (ns : List (List UInt8)) (i : Nat), (∀ n, n ∈ ns → ∃ e, dk L n = some e) → ((seenL bits L c ns i).2 = 0 ∧ (seenL bits L c ns i).1 = List.replicate (16 * 2 ^ bits) 0) ∨ (i < (seenL bits L c ns i).2 ∧ (seenL bits L c ns i).2 ≤ i + ns.length)
 | [], _, _ => .inl ⟨rfl, rfl⟩
 | n :: ns, i, h => by
   obtain ⟨e, he⟩ := h n (List.mem_cons_self ..)
   have ih := seenL_snd ns (i + 1) fun x hx => h x (List.mem_cons_of_mem _ hx)
   unfold seenL
   rw [he]
   simp only
   split
   · right
     rw [List.length_cons]
     show i < i + 1 ∧ i + 1 ≤ i + (ns.length + 1)
     omega
   · rcases ih with ih | ih
     · exact .inl ih
     · right
       rw [List.length_cons]
       omega
theorem seenL_head {n : List UInt8} {ns : List (List UInt8)} {i : Nat} {d : Dsk} (hd : dk L n = some d) (h : c < d.im.t.length ∧ (d.im.t.getD c s0).1 ≠ 0) : seenL bits L c (n :: ns) i = (clus d.im c none, i + 1) := by
 unfold seenL
 rw [hd]
 simp only
 rw [if_pos h]
theorem seenL_tail {n : List UInt8} {ns : List (List UInt8)} {i : Nat} {d : Dsk} (hd : dk L n = some d) (h : ¬ (c < d.im.t.length ∧ (d.im.t.getD c s0).1 ≠ 0)) : seenL bits L c (n :: ns) i = seenL bits L c ns (i + 1) := by
 conv => lhs; unfold seenL
 rw [hd]
 simp only
 rw [if_neg h]
/-- Who is a Hole reads what is below. -/
theorem cseen_hole {nm : List UInt8} {kk : Nat} {d : Dsk} (hd : dk L nm = some d) (h : ¬ (c < d.im.t.length ∧ (d.im.t.getD c s0).1 ≠ 0)) : cseen bits L nm kk c = belY bits L nm kk c := by
 unfold cseen belY
 rw [seenL_tail hd h]
end
section
variable {bits room : Nat} {L : List Dsk}
theorem CS.kn_all (h : CS bits room L) {nm : List UInt8} (h0 : ∃ d, dk L nm = some d) : ∀ n, n ∈ nm :: bl L (dpt L nm) nm → ∃ e, dk L n = some e := fun n hn => by
 rcases List.mem_cons.1 hn with rfl | hn
 · exact h0
 · exact bl_known h.toChOK (h.dep nm).1 n hn
theorem awy_le (h : CS bits room L) {nm : List UInt8} {d : Dsk} (hd : dk L nm = some d) {c : Nat} : awy bits L nm c ≤ dpt L nm + 1 := by
 have h2 : awy bits L nm c = (seenL bits L c (nm :: bl L (dpt L nm) nm) 0).2 := rfl
 have h3 := bl_len (h.dep nm).1
 rcases seenL_snd (bits := bits) (c := c) _ 0 (h.kn_all ⟨d, hd⟩) with h1 | h1
 · omega
 · rw [List.length_cons] at h1
   omega
end
theorem iIns_zero {s : ImS} (hO : ImOK s) {n : Nat} (hn : n ≤ iall s) : iIns s 0 (n : Int) = 0 := by
 unfold iIns
 rw [if_neg (by omega), if_neg (by omega)]
theorem rdC_ok {bits room : Nat} {L : List Dsk} (h : CS bits room L) {nm : List UInt8} {d : Dsk} (hd : dk L nm = some d) {n : Nat} (hn : n ≤ iall d.im) : rdC bits L nm 0 (n : Int) = (crdK bits L nm (dpt L nm) 0 n, 0) := by
 unfold rdC
 rw [hd]
 simp only
 rw [if_pos (iIns_zero (h.ims d (dk_get hd).1).1 hn)]
 rfl
/-! ### what is written to one is not seen in those that do not stand on it -/
section
variable {bits room : Nat} {L L' : List Dsk} {t n : List UInt8}
end
end Go.Proofs.YteoamepgonpdlaaGreat
/-!
  Chains: what Write, Zero and Discard make a disk read, sector by sector.
-/
namespace Go.Proofs.YteoamepgonpdlaaGreat
set_option linter.unusedVariables false
set_option linter.unusedSimpArgs false
set_option maxRecDepth 10000
open Go.RowKit Go.Proofs
/-! ### sectors of bytes -/
def sec (x : List UInt8) (j : Nat) : List UInt8 := (x.take (j * 16 + 16)).drop (j * 16)
theorem sec_get (x : List UInt8) (j i : Nat) : (sec x j)[i]? = if i < 16 then x[j * 16 + i]? else none := by
 unfold sec
 rw [List.getElem?_drop, List.getElem?_take]
 by_cases h : i < 16
 · rw [if_pos h, if_pos (by omega)]
 · rw [if_neg h, if_neg (by omega)]
theorem laid_get {X : List UInt8} {off n : Nat} {ys : List UInt8} (h1 : off + n ≤ X.length) (h2 : ys.length = n) (m : Nat) : (laid X off n ys)[m]? = if m < off then X[m]? else if m < off + n then ys[m - off]? else X[m]? := by
 unfold laid
 have e1 : (X.take off).length = off := by rw [List.length_take]; omega
 have e2 : ys.take n = ys := List.take_of_length_le (by omega)
 rw [e2]
 by_cases c1 : m < off
 · rw [if_pos c1, List.append_assoc, List.getElem?_append_left (by omega), List.getElem?_take, if_pos c1]
 · rw [if_neg c1]
   by_cases c2 : m < off + n
   · rw [if_pos c2, List.append_assoc, List.getElem?_append_right (by omega), e1, List.getElem?_append_left (by omega)]
   · rw [if_neg c2, List.getElem?_append_right (by rw [List.length_append]; omega), List.length_append, e1, h2, List.getElem?_drop]
     congr 1
     omega
/-- A piece laid over a cluster, sector by sector: q is where the cluster begins. -/
theorem sec_laid {X bs : List UInt8} {t W a l j pa pb pt : Nat} (hX : X.length = W) (hb : bs.length = 16 * l) (hj : j * 16 + 16 ≤ W) (e1 : pa = 16 * a - 16 * t) (e2 : pb = min (16 * (a + l) - 16 * t) W) (e3 : pt = 16 * t + pa - 16 * a) (hp : pa ≤ pb) (hq : 16 * t < 16 * (a + l)) :
   sec (laid X pa (pb - pa) ((bs.take (pt + pb - pa)).drop pt)) j = if a ≤ t + j ∧ t + j < a + l then sec bs (t + j - a) else sec X j := by
 have hlen : ((bs.take (pt + pb - pa)).drop pt).length = pb - pa := by
   rw [List.length_drop, List.length_take]
   omega
 refine List.ext_getElem? fun i => ?_
 rw [sec_get, laid_get (by omega) hlen]
 by_cases hi : i < 16
 · rw [if_pos hi]
   by_cases c : a ≤ t + j ∧ t + j < a + l
   · rw [if_pos c, sec_get, if_pos hi, if_neg (by omega), if_pos (by omega), List.getElem?_drop, List.getElem?_take, if_pos (by omega)]
     congr 1
     omega
   · rw [if_neg c, sec_get, if_pos hi]
     by_cases c2 : j * 16 + i < pa
     · rw [if_pos c2]
     · rw [if_neg c2, if_neg (by omega)]
 · rw [if_neg hi]
   split
   · rw [sec_get, if_neg hi]
   · rw [sec_get, if_neg hi]
theorem crdP_sec (bits : Nat) (L : List Dsk) (nm : List UInt8) (kk s : Nat) : crdP bits L nm kk s = sec (cseen bits L nm kk (s / 2 ^ bits)) (s % 2 ^ bits) := rfl
/-! ### clusters -/
section
variable {bits room : Nat} {L : List Dsk} {nm : List UInt8} {d : Dsk}
theorem belY_len (h : CS bits room L) (hd : dk L nm = some d) (c : Nat) : (belY bits L nm (dpt L nm) c).length = 16 * 2 ^ bits := seenL_eq h.toChOK c _ _ fun n hn => h.kn_all ⟨d, hd⟩ n (List.mem_cons_of_mem _ hn)
end
/-! ### pieces of a disk's clusters -/
theorem pc_range {W a l : Nat} (hW : isW W) (hl : 0 < l) {c : Nat} : (16 * a / W ≤ c ∧ c < 16 * a / W + pcN W a l) ↔ (16 * a < (c + 1) * W ∧ c * W < 16 * (a + l)) := by
 have hp : 0 < W := by rcases hW with h | h | h | h <;> omega
 have k1 : 16 * a / W ≤ c ↔ 16 * a < (c + 1) * W := by
   rw [← Nat.lt_succ_iff, Nat.succ_eq_add_one, Nat.div_lt_iff_lt_mul hp]
 constructor
 · rintro ⟨h1, h2⟩
   have := (pcN_iff hW (a := a) (l := l) (k := c - 16 * a / W)).2 (by omega)
   rw [show 16 * a / W + (c - 16 * a / W) = c by omega] at this
   exact ⟨k1.1 h1, this.2⟩
 · rintro ⟨h1, h2⟩
   have h1 := k1.2 h1
   refine ⟨h1, ?_⟩
   have := (pcN_iff hW (a := a) (l := l) (k := c - 16 * a / W)).1 ⟨hl, by rw [show 16 * a / W + (c - 16 * a / W) = c by omega]; exact h2⟩
   omega
/-- A cluster behind a piece of it was laid over, sector by sector. -/
theorem sec_piece {X bs : List UInt8} {b a l c : Nat} (hb : b ≤ 3) (hX : X.length = 16 * 2 ^ b) (hbs : bs.length = 16 * l) (hin : 16 * a < (c + 1) * (16 * 2 ^ b) ∧ c * (16 * 2 ^ b) < 16 * (a + l)) {j : Nat} (hj : j < 2 ^ b) :
   sec (laid X (pce (16 * 2 ^ b) a l (c - 16 * a / (16 * 2 ^ b))).a ((pce (16 * 2 ^ b) a l (c - 16 * a / (16 * 2 ^ b))).b - (pce (16 * 2 ^ b) a l (c - 16 * a / (16 * 2 ^ b))).a) (bsP bs (pce (16 * 2 ^ b) a l (c - 16 * a / (16 * 2 ^ b))))) j =
     if a ≤ c * 2 ^ b + j ∧ c * 2 ^ b + j < a + l then sec bs (c * 2 ^ b + j - a) else sec X j := by
 have hp := pow_le8 hb
 have hW : 0 < 16 * 2 ^ b := by omega
 have hc : 16 * a / (16 * 2 ^ b) ≤ c := by
   rw [← Nat.lt_succ_iff, Nat.succ_eq_add_one, Nat.div_lt_iff_lt_mul hW]
   exact hin.1
 have hcc : 16 * a / (16 * 2 ^ b) + (c - 16 * a / (16 * 2 ^ b)) = c := by omega
 have ht : c * (16 * 2 ^ b) = 16 * (c * 2 ^ b) := Nat.mul_left_comm ..
 have ht2 : (c + 1) * (16 * 2 ^ b) = 16 * (c * 2 ^ b) + 16 * 2 ^ b := by rw [Nat.succ_mul, ht]
 unfold bsP
 refine sec_laid (t := c * 2 ^ b) (W := 16 * 2 ^ b) hX hbs (by omega) ?_ ?_ ?_ ?_ (by omega)
 · show 16 * a - (16 * a / (16 * 2 ^ b) + (c - 16 * a / (16 * 2 ^ b))) * (16 * 2 ^ b) = _
   rw [hcc, ht]
 · show min (16 * (a + l) - (16 * a / (16 * 2 ^ b) + (c - 16 * a / (16 * 2 ^ b))) * (16 * 2 ^ b)) (16 * 2 ^ b) = _
   rw [hcc, ht]
 · show (16 * a / (16 * 2 ^ b) + (c - 16 * a / (16 * 2 ^ b))) * (16 * 2 ^ b) + (16 * a - (16 * a / (16 * 2 ^ b) + (c - 16 * a / (16 * 2 ^ b))) * (16 * 2 ^ b)) - 16 * a = 16 * (c * 2 ^ b) + (16 * a - (16 * a / (16 * 2 ^ b) + (c - 16 * a / (16 * 2 ^ b))) * (16 * 2 ^ b)) - 16 * a
   rw [hcc, ht]
 · show 16 * a - (16 * a / (16 * 2 ^ b) + (c - 16 * a / (16 * 2 ^ b))) * (16 * 2 ^ b) ≤ min (16 * (a + l) - (16 * a / (16 * 2 ^ b) + (c - 16 * a / (16 * 2 ^ b))) * (16 * 2 ^ b)) (16 * 2 ^ b)
   rw [hcc, ht]
   omega
/-! ### Write -/
section
variable {bits room : Nat} {L : List Dsk} {nm : List UInt8}
end
/-! ### Zero -/
section
variable {bits room : Nat} {L : List Dsk} {nm : List UInt8}
end
end Go.Proofs.YteoamepgonpdlaaGreat
/-!
  The program's image and the document's: what both have; one cell after the other.
-/
namespace Go.Proofs.YteoamepgonpdlaaGreat
set_option linter.unusedVariables false
set_option linter.unusedSimpArgs false
set_option maxRecDepth 10000
open Go.RowKit Go.Proofs
def idM (m : Rim) (c : Nat) : Int := ceI ((mC m).getD c (mkCe 0 0))
theorem idM_at {m : Rim} {c : Nat} (hc : c < (mC m).length) : idM m c = ceI (mC m)[c] := by
 unfold idM
 rw [List.getD_eq_getElem?_getD, List.getElem?_eq_getElem hc]
 rfl
/-- An image of the program, and one of the document, that have the same. -/
structure RI (n : Nat) (s : ImS) (m : Rim) : Prop where
 im : ImOK s
 ok : MOK n m
 wd : wid s = 16 * n
 len : (mC m).length = s.t.length
 rm : mR m = (s.l.length : Nat)
 kd : ∀ c, c < s.t.length → kdM m c = (s.t.getD c s0).1
 ct : ∀ c, c < s.t.length → kdM m c = 1 → clus s c none = (mD m).getD (idM m c).toNat []
 inj : ∀ c d, c < s.t.length → d < s.t.length → kdM m c = 1 → kdM m d = 1 → idM m c = idM m d → c = d
section
variable {n : Nat} {s : ImS} {m : Rim}
theorem RI.id_lt (h : RI n s m) {c : Nat} (hc : c < s.t.length) (hk : kdM m c = 1) : ∃ i : Nat, idM m c = (i : Int) ∧ i < (mD m).length := by
 have hc2 : c < (mC m).length := by rw [h.len]; exact hc
 rw [kdM_at hc2] at hk
 rw [idM_at hc2]
 exact h.ok.ix _ (List.getElem_mem hc2) hk
theorem RI.refs (h : RI n s m) {c : Nat} (hc : c < s.t.length) (hk : kdM m c = 1) : refsC (mC m) (idM m c) = 1 := by
 have hc2 : c < (mC m).length := by rw [h.len]; exact hc
 have key : ∀ k, k ≤ (mC m).length → refsC ((mC m).take k) (idM m c) = if c < k then 1 else 0 := fun k => by
   induction k with
   | zero => intro _; rfl
   | succ k ih =>
     intro hk2
     have hk3 : k < (mC m).length := hk2
     rw [refsC_succ hk3, ih (by omega)]
     by_cases e : k = c
     · subst e
       rw [if_neg (Nat.lt_irrefl _), if_pos (Nat.lt_succ_self _), if_pos ⟨by rw [← kdM_at hk3]; exact hk, (idM_at hk3).symm⟩]
     · have hn : ¬ (ceK (mC m)[k] = 1 ∧ ceI (mC m)[k] = idM m c) := fun ⟨q1, q2⟩ => by
         rw [← kdM_at hk3] at q1
         rw [← idM_at hk3] at q2
         exact e (h.inj k c (by rw [← h.len]; exact hk3) hc q1 hk q2)
       rw [if_neg hn]
       by_cases e2 : c < k
       · rw [if_pos e2, if_pos (by omega)]
       · rw [if_neg e2, if_neg (by omega)]
 have := key _ (Nat.le_refl _)
 rw [List.take_length, if_pos hc2] at this
 exact this
theorem RI.own (h : RI n s m) {c : Nat} (hc : c < s.t.length) : qown m c = decide (kdM m c = 1) := by
 have hc2 : c < (mC m).length := by rw [h.len]; exact hc
 unfold qown
 rw [List.getElem?_eq_getElem hc2]
 simp only
 rw [← kdM_at hc2, ← idM_at hc2]
 by_cases hk : kdM m c = 1
 · rw [h.refs hc hk, decide_eq_true hk]
   rfl
 · rw [decide_eq_false hk, Bool.false_and]
theorem RI.needs (h : RI n s m) {c : Nat} (hc : c < s.t.length) : iNeeds s c = decide (kdM m c ≠ 1) := by
 rcases needs_slot h.im hc with ⟨h1, h2⟩ | ⟨h1, k, h2, _⟩
 · rw [h1, h.kd c hc]
   rcases h2 with h2 | h2 <;> rw [h2] <;> rfl
 · have e : s.t.getD c s0 = ((1 : Int), (k : Int), true) := by rw [List.getD_eq_getElem?_getD, h2]; rfl
   rw [h1, h.kd c hc, e]
   rfl
/-! ### how many are free -/
def ksN (m : Rim) (N : Nat) : List Nat := (List.range N).filter fun c => decide (kdM m c = 1)
theorem ksN_mem {m : Rim} {N c : Nat} : c ∈ ksN m N ↔ c < N ∧ kdM m c = 1 := by
 unfold ksN
 rw [List.mem_filter, List.mem_range, decide_eq_true_iff]
theorem nodup_mapN {f : Nat → Nat} {l : List Nat} (hl : l.Nodup) (hf : ∀ a b, a ∈ l → b ∈ l → f a = f b → a = b) : (l.map f).Nodup := by
 unfold List.Nodup at hl ⊢
 rw [List.pairwise_map]
 exact hl.imp_of_mem fun ha hb hne e => hne (hf _ _ ha hb e)
theorem ksN_nodup (m : Rim) (N : Nat) : (ksN m N).Nodup := List.Pairwise.sublist List.filter_sublist List.nodup_range
theorem zeros_ones : ∀ l : List Int, (∀ x, x ∈ l → x = 0 ∨ x = 1) → zeros l + (l.filter fun x => decide (x = 1)).length = l.length
 | [], _ => rfl
 | x :: l, h => by
   have ih := zeros_ones l fun y hy => h y (List.mem_cons_of_mem _ hy)
   unfold zeros at ih ⊢
   rcases h x (List.mem_cons_self ..) with e | e
   · subst e
     simp only [List.filter_cons, List.length_cons]
     simp
     omega
   · subst e
     simp only [List.filter_cons, List.length_cons]
     simp
     omega
def onesN (l : List Int) : List Nat := (List.range l.length).filter fun h => decide (l[h]? = some 1)
theorem ones_len : ∀ l : List Int, (onesN l).length = (l.filter fun x => decide (x = 1)).length := fun l => by
 have key : ∀ k, k ≤ l.length → ((List.range k).filter fun h => decide (l[h]? = some 1)).length = ((l.take k).filter fun x => decide (x = 1)).length := fun k => by
   induction k with
   | zero => intro _; rfl
   | succ k ih =>
     intro hk
     have hk1 : k < l.length := hk
     rw [List.range_succ, List.filter_append, List.length_append, ih (by omega), List.take_succ_eq_append_getElem hk1, List.filter_append, List.length_append]
     congr 1
     by_cases e : l[k] = 1
     · simp [List.getElem?_eq_getElem hk1, e]
     · simp [List.getElem?_eq_getElem hk1, e]
 have := key _ (Nat.le_refl _)
 rw [List.take_length] at this
 exact this
theorem usedN_len (m : Rim) : ∀ k, usedN m k = ((List.range k).filter fun i : Nat => decide (refsC (mC m) (i : Nat) > 0)).length
 | 0 => rfl
 | k + 1 => by
   rw [usedN, usedN_len m k, List.range_succ, List.filter_append, List.length_append]
   congr 1
   by_cases e : refsC (mC m) (k : Nat) > 0
   · rw [if_pos e]; simp [e]
   · rw [if_neg e]; simp [e]
theorem refsC_pos {cs : List Cell} {id : Int} : 0 < refsC cs id ↔ ∃ c ∈ cs, ceK c = 1 ∧ ceI c = id := by
 unfold refsC
 rw [List.length_pos_iff_exists_mem]
 constructor
 · rintro ⟨c, hc⟩
   obtain ⟨h1, h2⟩ := List.mem_filter.1 hc
   simp only [Bool.and_eq_true, decide_eq_true_eq] at h2
   exact ⟨c, h1, h2⟩
 · rintro ⟨c, h1, h2, h3⟩
   refine ⟨c, List.mem_filter.2 ⟨h1, ?_⟩⟩
   rw [decide_eq_true h2, decide_eq_true h3]
   rfl
theorem RI.used (h : RI n s m) : usedN m (mD m).length = (ksN m s.t.length).length := by
 rw [usedN_len, show (ksN m s.t.length).length = ((ksN m s.t.length).map fun c => (idM m c).toNat).length from (List.length_map ..).symm]
 apply List.Perm.length_eq
 rw [List.perm_ext_iff_of_nodup (List.Pairwise.sublist List.filter_sublist List.nodup_range) (nodup_mapN (ksN_nodup m _) fun a b ha hb e => by
   obtain ⟨a1, a2⟩ := ksN_mem.1 ha
   obtain ⟨b1, b2⟩ := ksN_mem.1 hb
   obtain ⟨i, i1, _⟩ := h.id_lt a1 a2
   obtain ⟨j, j1, _⟩ := h.id_lt b1 b2
   have e : (idM m a).toNat = (idM m b).toNat := e
   rw [i1, j1, Int.toNat_natCast, Int.toNat_natCast] at e
   exact h.inj a b a1 b1 a2 b2 (by rw [i1, j1, e]))]
 intro i
 rw [List.mem_filter, List.mem_range, decide_eq_true_iff, List.mem_map]
 constructor
 · rintro ⟨hi, hr⟩
   obtain ⟨c, hc, k1, k2⟩ := refsC_pos.1 hr
   obtain ⟨j, hj, rfl⟩ := List.getElem_of_mem hc
   refine ⟨j, ksN_mem.2 ⟨by rw [← h.len]; exact hj, by rw [kdM_at hj]; exact k1⟩, ?_⟩
   rw [idM_at hj, k2, Int.toNat_natCast]
 · rintro ⟨c, hc, e⟩
   obtain ⟨c1, c2⟩ := ksN_mem.1 hc
   obtain ⟨j, j1, j2⟩ := h.id_lt c1 c2
   have ej : j = i := by rw [j1, Int.toNat_natCast] at e; exact e
   subst ej
   have := h.refs c1 c2
   rw [j1] at this
   exact ⟨j2, by omega⟩
theorem RI.ones (h : RI n s m) : (onesN s.l).length = (ksN m s.t.length).length := by
 rw [show (ksN m s.t.length).length = ((ksN m s.t.length).map fun c => (s.t.getD c s0).2.1.toNat).length from (List.length_map ..).symm]
 have slot : ∀ c, c ∈ ksN m s.t.length → ∃ k : Nat, s.t[c]? = some ((1 : Int), (k : Int), true) ∧ s.l[k]? = some 1 ∧ (s.t.getD c s0).2.1.toNat = k := fun c hc => by
   obtain ⟨c1, c2⟩ := ksN_mem.1 hc
   rw [h.kd c c1, List.getD_eq_getElem?_getD, List.getElem?_eq_getElem c1] at c2
   have c2 : (s.t[c]).1 = 1 := c2
   rcases h.im.slot c _ (List.getElem?_eq_getElem c1) with e | e | ⟨k, e, e2, _⟩
   · rw [e] at c2; exact absurd c2 (by decide)
   · rw [e] at c2; exact absurd c2 (by decide)
   · refine ⟨k, by rw [List.getElem?_eq_getElem c1, e], e2, ?_⟩
     rw [List.getD_eq_getElem?_getD, List.getElem?_eq_getElem c1, e]
     rfl
 apply List.Perm.length_eq
 unfold onesN
 rw [List.perm_ext_iff_of_nodup (List.Pairwise.sublist List.filter_sublist List.nodup_range) (nodup_mapN (ksN_nodup m _) fun a b ha hb e => by
   obtain ⟨k, k1, _, k3⟩ := slot a ha
   obtain ⟨j, j1, _, j3⟩ := slot b hb
   have e : (s.t.getD a s0).2.1.toNat = (s.t.getD b s0).2.1.toNat := e
   rw [k3, j3] at e
   subst e
   exact h.im.inj a b _ k1 j1)]
 intro i
 rw [List.mem_filter, List.mem_range, decide_eq_true_iff, List.mem_map]
 constructor
 · rintro ⟨hi, hr⟩
   obtain ⟨c, hc⟩ := h.im.used i hr
   have c1 : c < s.t.length := (List.getElem?_eq_some_iff.1 hc).1
   have e : s.t.getD c s0 = ((1 : Int), (i : Int), true) := by rw [List.getD_eq_getElem?_getD, hc]; rfl
   refine ⟨c, ksN_mem.2 ⟨c1, by rw [h.kd c c1, e]⟩, ?_⟩
   rw [e]
   exact Int.toNat_natCast i
 · rintro ⟨c, hc, e⟩
   obtain ⟨k, _, k2, k3⟩ := slot c hc
   have e : (s.t.getD c s0).2.1.toNat = i := e
   rw [k3] at e
   subst e
   exact ⟨(List.getElem?_eq_some_iff.1 k2).1, k2⟩
theorem RI.free (h : RI n s m) : freeM m = (zeros s.l : Nat) := by
 have h1 := zeros_ones s.l fun x hx => by
   obtain ⟨i, hi, rfl⟩ := List.getElem_of_mem hx
   exact h.im.cnt i _ (List.getElem?_eq_getElem hi)
 rw [← ones_len, h.ones] at h1
 unfold freeM
 rw [h.used, h.rm]
 omega
/-! ### one cell is another one -/
theorem kdM_set (c : Nat) (x : Cell) (d : Nat) (hc : c < (mC m).length) : kdM (setM m c x) d = if d = c then ceK x else kdM m d := by
 unfold kdM
 show ceK (((mC m).set c x).getD d (mkCe 0 0)) = _
 rw [List.getD_eq_getElem?_getD, List.getD_eq_getElem?_getD, List.getElem?_set]
 by_cases e : c = d
 · subst e
   rw [if_pos rfl, if_pos rfl, if_pos hc]
   rfl
 · rw [if_neg e, if_neg (Ne.symm e)]
theorem idM_set (c : Nat) (x : Cell) (d : Nat) (hc : c < (mC m).length) : idM (setM m c x) d = if d = c then ceI x else idM m d := by
 unfold idM
 show ceI (((mC m).set c x).getD d (mkCe 0 0)) = _
 rw [List.getD_eq_getElem?_getD, List.getD_eq_getElem?_getD, List.getElem?_set]
 by_cases e : c = d
 · subst e
   rw [if_pos rfl, if_pos rfl, if_pos hc]
   rfl
 · rw [if_neg e, if_neg (Ne.symm e)]
theorem getD_far {s s' : ImS} {d : Nat} (h : s'.t[d]? = s.t[d]?) : s'.t.getD d s0 = s.t.getD d s0 := by rw [List.getD_eq_getElem?_getD, List.getD_eq_getElem?_getD, h]
theorem RI.set {s' : ImS} {c : Nat} {q : Slt} (h : RI n s m) (hs : Sett s s' c q) (hc : c < s.t.length) (hq : q = s0 ∨ q = sZr) : RI n s' (setM m c (mkCe q.1 0)) := by
 have hc2 : c < (mC m).length := by rw [h.len]; exact hc
 have hq1 : q.1 ≠ 1 := by rcases hq with e | e <;> rw [e] <;> decide
 have far : ∀ d, kdM (setM m c (mkCe q.1 0)) d = 1 → d ≠ c ∧ kdM m d = 1 := fun d hd => by
   rw [kdM_set c _ d hc2] at hd
   by_cases e : d = c
   · rw [if_pos e] at hd; exact absurd hd hq1
   · rw [if_neg e] at hd; exact ⟨e, hd⟩
 refine ⟨hs.ok, h.ok.set c hq1, ?_, ?_, ?_, fun d hd => ?_, fun d hd hk => ?_, fun d e hd he hkd hke hi => ?_⟩
 · rw [← h.wd]; unfold wid; rw [hs.bits]
 · show ((mC m).set c _).length = _
   rw [List.length_set, hs.tl, h.len]
 · show mR m = _
   rw [hs.ll, h.rm]
 · rw [hs.tl] at hd
   rw [kdM_set c _ d hc2]
   by_cases e : d = c
   · subst e
     rw [if_pos rfl, List.getD_eq_getElem?_getD, hs.there]
     rfl
   · rw [if_neg e, h.kd d hd, getD_far (hs.far d e).1]
 · rw [hs.tl] at hd
   obtain ⟨e, hk1⟩ := far d hk
   rw [(hs.far d e).2, h.ct d hd hk1, idM_set c _ d hc2, if_neg e]
 · rw [hs.tl] at hd he
   obtain ⟨e1, k1⟩ := far d hkd
   obtain ⟨e2, k2⟩ := far e hke
   rw [idM_set c _ d hc2, idM_set c _ e hc2, if_neg e1, if_neg e2] at hi
   exact h.inj d e hd he k1 k2 hi
theorem RI.put {s' : ImS} {p : Pce} {bs y x : List UInt8} (h : RI n s m) (hs : Put s s' p bs y) (hc : p.c < s.t.length) (hx : laid (clus s p.c (some y)) p.a (p.b - p.a) bs = x) (hxl : x.length = 16 * n) (hd : (mD m).length + 1 ≤ 100000) : RI n s' (putM m p.c x) := by
 have hc2 : p.c < (mC m).length := by rw [h.len]; exact hc
 have hown := h.own hc
 have hok := h.ok.put p.c hxl hd
 have w1 : wid s' = 16 * n := by rw [← h.wd]; unfold wid; rw [hs.bits]
 have w2 : (mC (putM m p.c x)).length = s'.t.length := by rw [putM_cl, hs.tl, h.len]
 have w3 : mR (putM m p.c x) = (s'.l.length : Nat) := by rw [hs.ll, ← h.rm]; unfold putM; split <;> rfl
 have k1 : (s'.t.getD p.c s0).1 = 1 := by
   have hc3 : p.c < s'.t.length := by rw [hs.tl]; exact hc
   rcases needs_slot hs.ok hc3 with ⟨e1, _⟩ | ⟨_, k, e2, _⟩
   · rw [hs.dat] at e1; cases e1
   · rw [List.getD_eq_getElem?_getD, e2]; rfl
 have th : clus s' p.c none = x := (hs.there none).trans hx
 by_cases hk : kdM m p.c = 1
 · rw [decide_eq_true hk] at hown
   have e : putM m p.c x = mkM (mN m) (mR m) (mC m) (mS m) ((mD m).set (idM m p.c).toNat x) := by unfold putM; rw [hown]; rfl
   obtain ⟨i, i1, i2⟩ := h.id_lt hc hk
   rw [e] at hok w2 w3 ⊢
   refine ⟨hs.ok, hok, w1, w2, w3, fun d hd => ?_, fun d hd hkd => ?_, fun d e hd he hkd hke hi => ?_⟩
   · rw [hs.tl] at hd
     show kdM m d = _
     by_cases e : d = p.c
     · subst e; rw [k1, hk]
     · rw [h.kd d hd, getD_far (hs.far d e).1]
   · rw [hs.tl] at hd
     have hkd : kdM m d = 1 := hkd
     show clus s' d none = ((mD m).set (idM m p.c).toNat x).getD (idM m d).toNat []
     by_cases e : d = p.c
     · subst e
       rw [th, i1, Int.toNat_natCast, List.getD_eq_getElem?_getD, List.getElem?_set_self i2]
       rfl
     · obtain ⟨j, j1, j2⟩ := h.id_lt hd hkd
       have hij : i ≠ j := fun q => e (h.inj d p.c hd hc hkd hk (by rw [i1, j1, q]))
       rw [(hs.far d e).2, h.ct d hd hkd, i1, j1, Int.toNat_natCast, Int.toNat_natCast, List.getD_eq_getElem?_getD, List.getD_eq_getElem?_getD, List.getElem?_set_ne hij]
   · rw [hs.tl] at hd he
     exact h.inj d e hd he hkd hke hi
 · rw [decide_eq_false hk] at hown
   have e : putM m p.c x = setM (mkM (mN m) (mR m) (mC m) (mS m) (mD m ++ [x])) p.c (mkCe 1 ((mD m).length : Nat)) := by unfold putM; rw [hown]
   rw [e] at hok w2 w3 ⊢
   have kk : ∀ d, kdM (setM (mkM (mN m) (mR m) (mC m) (mS m) (mD m ++ [x])) p.c (mkCe 1 ((mD m).length : Nat))) d = if d = p.c then 1 else kdM m d := fun d => kdM_set (m := mkM (mN m) (mR m) (mC m) (mS m) (mD m ++ [x])) p.c _ d hc2
   have ii : ∀ d, idM (setM (mkM (mN m) (mR m) (mC m) (mS m) (mD m ++ [x])) p.c (mkCe 1 ((mD m).length : Nat))) d = if d = p.c then (((mD m).length : Nat) : Int) else idM m d := fun d => idM_set (m := mkM (mN m) (mR m) (mC m) (mS m) (mD m ++ [x])) p.c _ d hc2
   refine ⟨hs.ok, hok, w1, w2, w3, fun d hd => ?_, fun d hd hkd => ?_, fun d e hd he hkd hke hi => ?_⟩
   · rw [hs.tl] at hd
     rw [kk]
     by_cases e : d = p.c
     · subst e; rw [if_pos rfl, k1]
     · rw [if_neg e, h.kd d hd, getD_far (hs.far d e).1]
   · rw [hs.tl] at hd
     rw [kk] at hkd
     rw [ii]
     show clus s' d none = (mD m ++ [x]).getD _ []
     by_cases e : d = p.c
     · subst e
       rw [if_pos rfl, th, Int.toNat_natCast, List.getD_eq_getElem?_getD, List.getElem?_concat_length]
       rfl
     · rw [if_neg e] at hkd ⊢
       obtain ⟨j, j1, j2⟩ := h.id_lt hd hkd
       rw [(hs.far d e).2, h.ct d hd hkd, j1, Int.toNat_natCast, List.getD_eq_getElem?_getD, List.getD_eq_getElem?_getD, List.getElem?_append_left j2]
   · rw [hs.tl] at hd he
     rw [kk] at hkd hke
     rw [ii, ii] at hi
     by_cases e1 : d = p.c <;> by_cases e2 : e = p.c
     · rw [e1, e2]
     · rw [if_neg e2] at hke hi
       rw [if_pos e1] at hi
       obtain ⟨j, j1, j2⟩ := h.id_lt he hke
       rw [j1] at hi
       omega
     · rw [if_neg e1] at hkd hi
       rw [if_pos e2] at hi
       obtain ⟨j, j1, j2⟩ := h.id_lt hd hkd
       rw [j1] at hi
       omega
     · rw [if_neg e1] at hkd hi
       rw [if_neg e2] at hke hi
       exact h.inj d e hd he hkd hke hi
end
end Go.Proofs.YteoamepgonpdlaaGreat
