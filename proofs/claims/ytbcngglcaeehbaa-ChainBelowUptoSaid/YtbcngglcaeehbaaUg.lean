/-
  ChainBelow: what is written to an image is seen in it, and changes none but those that stand on it.
-/
import Derived.Test.YtbcngglcaeehbaaLy
import Derived.Test.YtbcngglcaeehbaaCz
import Derived.Test.YtbcngglcaeehbaaSe
set_option linter.unusedVariables false
set_option linter.unusedSimpArgs false
set_option maxRecDepth 10000
namespace Go.Proofs.Ytbcngglcaeehbaa
open Go.RowKit Go.Proofs
section
variable {bits room : Nat} {L L' : List Dsk} {t n : List UInt8}
theorem bl_lenle (L : List Dsk) : ∀ (k : Nat) (nm : List UInt8), (bl L k nm).length ≤ k
  | 0, _ => Nat.le_refl _
  | k + 1, nm => by
    show (match dk L nm with | none => [] | some d => d.back :: bl L k d.back).length ≤ k + 1
    cases dk L nm with
    | none => exact Nat.zero_le _
    | some d => exact Nat.succ_le_succ (bl_lenle L k d.back)
theorem off_walk (h : CS bits room L) (hn : ∃ d, dk L n = some d) {k : Nat} (hk : downTo L k n = []) (hw : ∀ j, j < k → downTo L j n ≠ t ∧ downTo L j n ≠ []) : Off L t n := by
  have hdp := (h.dep n).1
  have hlt : dpt L n < k := by
    refine Nat.lt_of_not_le fun hle => ?_
    obtain ⟨e, he⟩ := down_known h hdp hn k hle
    exact known_ne h ⟨e, he⟩ hk
  refine ⟨(hw 0 (by omega)).1, fun hm => ?_⟩
  obtain ⟨i, hi⟩ := List.mem_iff_getElem?.1 hm
  have hil : i < dpt L n := by
    have h1 := (List.getElem?_eq_some_iff.1 hi).1
    have h2 := bl_lenle L (dpt L n) n
    omega
  rw [bl_get hdp hil] at hi
  injection hi with hi
  exact (hw (i + 1) (by omega)).1 hi
theorem off_back (h : CS bits room L) (hl : Lm L t L') (o : Off L' t n) : Off L t n := by
  rcases hl with rfl | ⟨d, im, h0, hs, rfl⟩
  · exact o
  · have h2 := o.nb
    rw [dpt_lim h, bl_lim] at h2
    exact ⟨o.ne, h2⟩
theorem wr_read (h : CS bits room L) {a : Int} {bs : List UInt8} (he : (wrC bits L t a bs).e = 0) : rdC bits (wrC bits L t a bs).L t a ((bs.length / 16 : Nat) : Int) = (bs, 0) := by
  have hs := wr_sector h he
  obtain ⟨d, hd, hbl, ha, hin, hnd, hL⟩ := wrC_inv he
  obtain ⟨d2, im, hd2, hlk, hL2, _⟩ := wr_kind h he
  have hlm := wrC_lm h t a bs
  have hd' : dk (wrC bits L t a bs).L t = some { d2 with im := im, pin := none } := by rw [hL2]; exact dk_lim_self hd2 im none
  have e2 : d2 = d := by rw [hd] at hd2; injection hd2 with e; exact e.symm
  subst e2
  unfold rdC
  rw [hd']
  simp only
  have hin2 : iIns im a ((bs.length / 16 : Nat) : Int) = 0 := by
    rw [ha]
    rw [← hin]
    unfold iIns iall
    rw [hlk.tl, hlk.bits]
  rw [if_pos hin2]
  have hsec : ∀ i, i < bs.length / 16 → crdP bits (wrC bits L t a bs).L t (dpt (wrC bits L t a bs).L t) (a.toNat + i) = sec bs i := fun i hi => by
    rw [hs, if_pos ⟨by omega, by omega⟩, show a.toNat + i - a.toNat = i by omega]
  rw [show (((bs.length / 16 : Nat) : Int)).toNat = bs.length / 16 from rfl, crdK_of (bs := bs) (bs.length / 16) (by omega) hsec, List.take_of_length_le (by omega)]
end
@[reducible] def cgK (l : List Cop) (k : Nat) : KL := [(3, vP 3), (5, vP 1001), (51, vL uC l), (52, vI (l.length : Nat)), (53, vI (k : Nat))]
@[reducible] def cgB0 (L : List Dsk) (o : Cop) : BL := chB ((1 : Nat) : Int) ((60 : Nat) : Int) L ++ [(3, .cells (copL o))]
@[reducible] def cgB (L Lw : List Dsk) (o : Cop) : BL := chB ((1 : Nat) : Int) ((60 : Nat) : Int) L ++ [(3, .cells (copL o)), (7001, .cells [.d (.int .i64 ((1 : Nat) : Int)), .d (.int .i64 ((60 : Nat) : Int)), .mp 7002]), (7002, .map .str .adr (chE Lw)), (7003, .obj (.pool (chD Lw))), (7004, .obj (.pool (chM Lw)))]
@[reducible] def cgK1 (N : List (List UInt8)) (i : Nat) : KL := [(3, vP 3), (5, vP 1001), (9, vP 7001), (110, vL .str N), (111, vI (N.length : Nat)), (112, vI (i : Nat))]
@[reducible] def cgK2 (N : List (List UInt8)) (i : Nat) (nm ab : List UInt8) (k : Nat) : KL := [(3, vP 3), (5, vP 1001), (9, vP 7001), (110, vL .str N), (111, vI (N.length : Nat)), (112, vI (i : Nat)), (13, vS nm), (14, vS ab), (15, vI (k : Nat))]
set_option maxHeartbeats 2000000 in
theorem chainBelow_fn (l : List Cop) (o : Cop) (hl : l.length ≤ 1073741824) (ht : (l.map cTot).sum ≤ 1073741824) (hto : cTot o ≤ 1073741824) : Fn Try.prog 4 [vL uC l, copV o] [] [] (vB true) [] := by
  have hfo := few14_fn [o] (show (1 : Nat) ≤ 1073741824 by decide) (by simpa using hto)
  refine Fn.of tblOK [7,9,10,12,13,15,22,23,24,25,26,27,30] _ _ _ _ _ Try.func4 rfl rfl (by kernel_rfl) (by kernel_rfl) rfl (drawOK tblOK) rfl ?_
  refine ⟨rfl, ?_⟩
  refine ⟨_, _, _, _, chnew_ok 1 60 (by decide) (by decide), trivial, rfl, ?_⟩
  refine ⟨fun h => absurd h (by decide), fun _ => ?_⟩
  refine ⟨_, _, _, _, few14_fn l hl ht, trivial, rfl, ?_⟩
  refine ⟨fun _ => ?_, fun hf => ?_⟩
  · refine ⟨fun _ => ?_, fun h => absurd h (by decide)⟩
    refine ⟨_, _, _, _, alive14_fn, trivial, rfl, ?_⟩
    exact ⟨_, _, _, Le.refl _ _, rfl, rfl, trivial, rfl⟩
  refine ⟨_, _, _, _, hfo, trivial, rfl, ?_⟩
  refine ⟨fun _ => ?_, fun hf2 => ?_⟩
  · refine ⟨fun _ => ?_, fun h => absurd h (by decide)⟩
    refine ⟨_, _, _, _, alive14_fn, trivial, rfl, ?_⟩
    exact ⟨_, _, _, Le.refl _ _, rfl, rfl, trivial, rfl⟩
  have hfew : fewO 40 l = true := by
    have hf : (!fewO 40 l) = false := hf
    simpa using hf
  obtain ⟨hll, -, hob⟩ := fewO_get hfew
  have hto6 : cTot o ≤ 6000 := by
    have hf2 : (!fewO 40 [o]) = false := hf2
    exact ((fewO_get (m := 40) (l := [o]) (by simpa using hf2)).2.2 o (List.mem_cons_self ..)).1
  have htt : cTot o = (qB (cQ o)).length + (cNm o).length + (cOt o).length := rfl
  show TrQ _ _ _ _ _ _ _
  refine TrQ.loop tblOK (drawOK tblOK) [7,9,10,12,13,15,22,23,24,25,26,27,30] (by kernel_rfl) (X := Nat × List Dsk) (fun x => cgK l x.1) (fun x => cgB0 x.2 o) (fun x => x.1 ≤ l.length ∧ CS 1 60 x.2) (fun x => l.length - x.1) (0, []) ⟨Nat.zero_le _, CS.nil (by decide) (by decide)⟩ ?_ ?_
  · exact Le.sub ⟨rfl, rfl, rfl, rfl, rfl, trivial⟩ ⟨rfl, rfl, rfl, rfl, rfl, trivial⟩
  rintro ⟨k, L⟩ ⟨hk, hC⟩
  have hk : k ≤ l.length := hk
  have hC : CS 1 60 L := hC
  refine ⟨fun hc => ?_, fun hc => ?_⟩
  · have hc : decide ((k : Int) < ((l.length : Nat) : Int)) = true := hc
    have hk1 : k < l.length := by have := of_decide_eq_true hc; omega
    have hO := (hob _ (List.getElem_mem hk1)).1
    refine ⟨by omega, l[k], lgAt (n := k) hk1, ?_⟩
    refine ⟨rfl, ?_⟩
    show TrQ _ _ _ _ _ _ _
    refine TrQ.regionX tblOK (by kernel_rfl) ?_
    refine ⟨_, _, _, fun g => _, fun g => _, does14_fn hC l[k] (by omega), ⟨rfl, rfl, rfl, rfl, trivial⟩, rfl, fun _ => rfl, fun g => ?_⟩
    exact ⟨by omega, (k + 1, (doC 1 60 L l[k] g.1).L), ⟨hk1, g.2⟩, by show l.length - (k + 1) < l.length - k; omega, Le.sub ⟨rfl, rfl, rfl, rfl, rfl, trivial⟩ ⟨rfl, rfl, rfl, rfl, rfl, trivial⟩⟩
  have hcp1 := FnX.ren [(2001, 7001), (2002, 7002), (2003, 7003), (2004, 7004)] (chcopy_fn hC)
  show TrQ _ _ _ _ _ _ _
  refine TrQ.le (Le.sub (K' := [(3, vP 3), (5, vP 1001)]) (B' := cgB0 L o) ⟨rfl, rfl, trivial⟩ ⟨rfl, rfl, rfl, rfl, rfl, trivial⟩) ?_
  refine TrQ.regionX tblOK (by kernel_rfl) ?_
  refine ⟨_, _, _, fun g => _, fun g => _, hcp1, ⟨rfl, rfl, rfl, rfl, trivial⟩, rfl, fun _ => rfl, fun g => ?_⟩
  obtain ⟨Lw, hw0⟩ := g
  have hwr := chwrite_fn hC (cNm o) (qA (cQ o)) (qB (cQ o)) (by omega)
  have hlm := wrC_lm hC (cNm o) (qA (cQ o)) (qB (cQ o))
  have hrdw := wr_read hC (t := cNm o) (a := qA (cQ o)) (bs := qB (cQ o))
  have hC2 := wrC_cs hC (cNm o) (qA (cQ o)) (qB (cQ o))
  have hkn : (wrC 1 L (cNm o) (qA (cQ o)) (qB (cQ o))).e = 0 → cNm o ≠ [] := fun he => by
    obtain ⟨d, hd, _⟩ := wrC_inv he
    exact known_ne hC ⟨d, hd⟩
  have hq : (((qB (cQ o)).length : Nat) : Int) / 16 = (((qB (cQ o)).length / 16 : Nat) : Int) := by omega
  have mq : (-9223372036854775808 : Int) ≤ (((qB (cQ o)).length : Nat) : Int) / 16 ∧ (((qB (cQ o)).length : Nat) : Int) / 16 ≤ 9223372036854775807 := by omega
  generalize wrC 1 L (cNm o) (qA (cQ o)) (qB (cQ o)) = r at *
  show TrQ _ _ _ _ _ _ _
  refine TrQ.go tblOK (drawOK tblOK) [12,13,15,22,23,24,25,26,27,30] (by kernel_rfl) (Le.sub (K' := [(3, vP 3), (5, vP 1001), (9, vP 7001)]) (B' := cgB L Lw o) ⟨rfl, rfl, rfl, trivial⟩ ⟨rfl, rfl, rfl, rfl, rfl, rfl, rfl, rfl, rfl, trivial⟩) ?_
  refine ⟨_, _, _, _, hwr, ⟨rfl, rfl, rfl, rfl, trivial⟩, rfl, ?_⟩
  refine ⟨fun h => ?_, fun h => ?_⟩
  · refine ⟨_, _, _, _, alive14_fn, trivial, rfl, ?_⟩
    exact ⟨_, _, _, Le.refl _ _, rfl, rfl, trivial, rfl⟩
  have he : r.e = 0 := by
    have h : (!decide (r.e = 0)) = false := h
    simpa using h
  have hrdw := hrdw he
  have hkn := hkn he
  have hcr := chread_fn hC2 (cNm o) (qA (cQ o)) ((((qB (cQ o)).length : Nat) : Int) / 16)
  rw [hq, hrdw, ← hq] at hcr
  generalize r.L = L2 at *
  show TrQ _ _ _ _ _ _ _
  refine TrQ.go tblOK (drawOK tblOK) [13,15,22,23,24,25,26,27,30] (by kernel_rfl) (Le.sub (K' := [(3, vP 3), (5, vP 1001), (9, vP 7001)]) (B' := cgB L2 Lw o) ⟨rfl, rfl, rfl, trivial⟩ ⟨rfl, rfl, rfl, rfl, rfl, rfl, rfl, rfl, rfl, trivial⟩) ?_
  refine ⟨⟨by omega, by omega⟩, mq, ?_⟩
  refine ⟨_, _, _, _, hcr, ⟨rfl, rfl, rfl, rfl, trivial⟩, rfl, ?_⟩
  show TrQ _ _ _ _ _ _ _
  refine TrQ.go tblOK (drawOK tblOK) [15,22,23,24,25,26,27,30] (by kernel_rfl) (Le.sub (K' := [(3, vP 3), (5, vP 1001), (9, vP 7001), (10, vL .u8 (qB (cQ o))), (11, vI 0)]) (B' := cgB L2 Lw o) ⟨rfl, rfl, rfl, rfl, rfl, trivial⟩ ⟨rfl, rfl, rfl, rfl, rfl, rfl, rfl, rfl, rfl, trivial⟩) ?_
  refine ⟨fun h => absurd h (by decide), fun _ => ?_⟩
  refine ⟨fun h => ?_, fun _ => ?_⟩
  · exfalso
    have h : (!decide (qB (cQ o) = qB (cQ o))) = true := h
    rw [decide_eq_true rfl] at h
    cases h
  have hnc := chnames_fn hC2
  have hnl := nmsS_len L2
  have hL16 := hC2.len
  have hnm := fun n => @nmsS_mem L2 n
  generalize nmsS L2 = N at *
  show TrQ _ _ _ _ _ _ _
  refine TrQ.go tblOK (drawOK tblOK) [22,23,24,25,26,27,30] (by kernel_rfl) (Le.sub (K' := [(3, vP 3), (5, vP 1001), (9, vP 7001)]) (B' := cgB L2 Lw o) ⟨rfl, rfl, rfl, trivial⟩ ⟨rfl, rfl, rfl, rfl, rfl, rfl, rfl, rfl, rfl, trivial⟩) ?_
  refine ⟨_, _, _, _, hnc, ⟨rfl, rfl, rfl, rfl, trivial⟩, rfl, ?_⟩
  show TrQ _ _ _ _ _ _ _
  refine TrQ.loop tblOK (drawOK tblOK) [22,23,24,25,26,27,30] (by kernel_rfl) (X := Nat) (fun i => cgK1 N i) (fun _ => cgB L2 Lw o) (fun i => i ≤ N.length) (fun i => N.length - i) 0 (Nat.zero_le _) ?_ ?_
  · exact Le.sub ⟨rfl, rfl, rfl, rfl, rfl, rfl, trivial⟩ ⟨rfl, rfl, rfl, rfl, rfl, rfl, rfl, rfl, rfl, trivial⟩
  intro i hi
  have hi : i ≤ N.length := hi
  refine ⟨fun hc => ?_, fun hc => ?_⟩
  · have hc : decide ((i : Int) < ((N.length : Nat) : Int)) = true := hc
    have hi1 : i < N.length := by have := of_decide_eq_true hc; omega
    have hget := lgAt (n := i) hi1
    obtain ⟨d, hd⟩ := hnm _ (List.getElem_mem hi1)
    generalize N[i] = nm at *
    have hdp := hC2.dep nm
    have hend := down_end hC2 hdp.1 ⟨d, hd⟩
    have hLm := hC2.toChN.M (dk_get hd).1
    have htl := (hC2.ims d (dk_get hd).1).1.tl
    have es1 := shl1 d.im.t.length
    have m1 : (0 : Int) ≤ ((d.im.t.length : Nat) : Int) ∧ (0 : Int) ≤ (1 : Int) ∧ (1 : Int) ≤ 64 := by omega
    have m2 : (-9223372036854775808 : Int) ≤ ((d.im.t.length : Nat) : Int) * ((2 ^ (1 : Int).toNat : Nat) : Int) ∧ ((d.im.t.length : Nat) : Int) * ((2 ^ (1 : Int).toNat : Nat) : Int) ≤ 9223372036854775807 := by rw [es1]; omega
    have him := image_fn ((1 : Nat) : Int) ((60 : Nat) : Int) L2 hC2.toChN nm d hd
    have hr1 := fun a => Fn.ren [(1001, 7001), (1002, 7002), (1003, 7003), (1004, 7004)] (chread_fn hw0.cs nm 0 a)
    have hr2 := fun a => chread_fn hC2 nm 0 a
    have hre : ∀ a, Off L2 (cNm o) nm → rdC 1 Lw nm 0 a = rdC 1 L2 nm 0 a := fun a hof => (hw0.eq.rd hC nm 0 a).trans (hlm.read hC (off_back hC hlm hof) 0 a).symm
    refine ⟨by omega, nm, hget, ?_⟩
    show TrQ _ _ _ _ _ _ _
    refine TrQ.loop tblOK (drawOK tblOK) [22,23,24,25,26,27,30] (by kernel_rfl) (X := Nat) (fun k => cgK2 N i nm (downTo L2 k nm) k) (fun _ => cgB L2 Lw o) (fun k => ∀ j, j < k → downTo L2 j nm ≠ cNm o ∧ downTo L2 j nm ≠ []) (fun k => 20 - k) 0 (fun j hj => absurd hj (Nat.not_lt_zero j)) ?_ ?_
    · exact Le.sub ⟨rfl, rfl, rfl, rfl, rfl, rfl, rfl, rfl, rfl, trivial⟩ ⟨rfl, rfl, rfl, rfl, rfl, rfl, rfl, rfl, rfl, trivial⟩
    intro k hw
    have hw : ∀ j, j < k → downTo L2 j nm ≠ cNm o ∧ downTo L2 j nm ≠ [] := hw
    have hk9 : k ≤ 9 := by
      refine Nat.le_of_not_lt fun h => ?_
      exact (hw (dpt L2 nm + 1) (by omega)).2 hend
    have hof : downTo L2 k nm = [] → Off L2 (cNm o) nm := fun h => off_walk hC2 ⟨d, hd⟩ h hw
    refine ⟨fun _ => ?_, fun h => absurd (of_decide_eq_false (show decide ((k : Int) < 16) = false from h)) (by omega)⟩
    refine ⟨fun h1 => ?_, fun h1 => ?_⟩
    · have h1 : ¬ downTo L2 k nm = cNm o := by
        have h1 : (!decide (downTo L2 k nm = cNm o)) = true := h1
        simpa using h1
      refine ⟨fun h2 => ?_, fun h2 => ?_⟩
      · have h2 : ¬ downTo L2 k nm = [] := by
          have h2 : (!decide (downTo L2 k nm = [])) = true := h2
          simpa using h2
        have hkd : k ≤ dpt L2 nm := by
          refine Nat.le_of_not_lt fun h => ?_
          by_cases e : k = dpt L2 nm + 1
          · exact h2 (e ▸ hend)
          · exact (hw (dpt L2 nm + 1) (by omega)).2 hend
        obtain ⟨e, he2⟩ := down_known hC2 hdp.1 ⟨d, hd⟩ k hkd
        have hnx : downTo L2 (k + 1) nm = e.back := by rw [downTo_succ, he2]
        have hbk := backing_fn ((1 : Nat) : Int) ((60 : Nat) : Int) L2 hC2.toChN (downTo L2 k nm) e he2
        rw [← hnx] at hbk
        show TrQ _ _ _ _ _ _ _
        refine TrQ.go tblOK (drawOK tblOK) [23,24,25,26,27,30] (by kernel_rfl) (Le.sub (K' := cgK2 N i nm (downTo L2 k nm) k) (B' := cgB L2 Lw o) ⟨rfl, rfl, rfl, rfl, rfl, rfl, rfl, rfl, rfl, trivial⟩ ⟨rfl, rfl, rfl, rfl, rfl, rfl, rfl, rfl, rfl, trivial⟩) ?_
        refine ⟨_, _, _, _, hbk, ⟨rfl, rfl, rfl, rfl, trivial⟩, rfl, ?_⟩
        exact ⟨by omega, k + 1, fun j hj => (by
          by_cases e : j = k
          · subst e; exact ⟨h1, h2⟩
          · exact hw j (by omega)), by omega, Le.sub ⟨rfl, rfl, rfl, rfl, rfl, rfl, rfl, rfl, rfl, trivial⟩ ⟨rfl, rfl, rfl, rfl, rfl, rfl, rfl, rfl, rfl, trivial⟩⟩
      · have h2 : downTo L2 k nm = [] := by
          have h2 : (!decide (downTo L2 k nm = [])) = false := h2
          simpa using h2
        have hre := fun a => hre a (hof h2)
        show TrQ _ _ _ _ _ _ _
        refine TrQ.go tblOK (drawOK tblOK) [24,25,26,27,30] (by kernel_rfl) (Le.sub (K' := cgK2 N i nm (downTo L2 k nm) k) (B' := cgB L2 Lw o) ⟨rfl, rfl, rfl, rfl, rfl, rfl, rfl, rfl, rfl, trivial⟩ ⟨rfl, rfl, rfl, rfl, rfl, rfl, rfl, rfl, rfl, trivial⟩) ?_
        refine ⟨fun h => absurd (of_decide_eq_true (show decide (downTo L2 k nm = cNm o) = true from h)) h1, fun _ => ?_⟩
        show TrQ _ _ _ _ _ _ _
        refine TrQ.go tblOK (drawOK tblOK) [25,26,27,30] (by kernel_rfl) (Le.sub (K' := cgK2 N i nm (downTo L2 k nm) k) (B' := cgB L2 Lw o) ⟨rfl, rfl, rfl, rfl, rfl, rfl, rfl, rfl, rfl, trivial⟩ ⟨rfl, rfl, rfl, rfl, rfl, rfl, rfl, rfl, rfl, trivial⟩) ?_
        refine ⟨_, _, _, _, him, ⟨rfl, rfl, rfl, rfl, trivial⟩, rfl, ?_⟩
        refine ⟨_, _, _, _, imFn (isize_fn d.im) hLm rfl rfl rfl rfl, ⟨rfl, trivial⟩, rfl, ?_⟩
        refine ⟨m1, m2, ?_⟩
        generalize hN0 : ((d.im.t.length : Nat) : Int) * ((2 ^ (1 : Int).toNat : Nat) : Int) = n0
        have hr1 := hr1 n0
        have hr2 := hr2 n0
        have hre := hre n0
        rw [hre] at hr1
        generalize (rdC 1 L2 nm 0 n0).1 = xa at *
        generalize (rdC 1 L2 nm 0 n0).2 = xe at *
        show TrQ _ _ _ _ _ _ _
        refine TrQ.go tblOK (drawOK tblOK) [26,27,30] (by kernel_rfl) (Le.sub (K' := [(3, vP 3), (5, vP 1001), (9, vP 7001), (110, vL .str N), (111, vI (N.length : Nat)), (112, vI (i : Nat)), (13, vS nm), (16, vI n0)]) (B' := cgB L2 Lw o) ⟨rfl, rfl, rfl, rfl, rfl, rfl, rfl, (by first | rfl | exact hN0), trivial⟩ ⟨rfl, rfl, rfl, rfl, rfl, rfl, rfl, rfl, rfl, trivial⟩) ?_
        refine ⟨_, _, _, _, hr1, ⟨rfl, rfl, rfl, rfl, trivial⟩, rfl, ?_⟩
        show TrQ _ _ _ _ _ _ _
        refine TrQ.go tblOK (drawOK tblOK) [27,30] (by kernel_rfl) (Le.sub (K' := [(3, vP 3), (5, vP 1001), (9, vP 7001), (110, vL .str N), (111, vI (N.length : Nat)), (112, vI (i : Nat)), (13, vS nm), (16, vI n0), (17, vL .u8 xa), (18, vI xe)]) (B' := cgB L2 Lw o) ⟨rfl, rfl, rfl, rfl, rfl, rfl, rfl, rfl, rfl, rfl, trivial⟩ ⟨rfl, rfl, rfl, rfl, rfl, rfl, rfl, rfl, rfl, trivial⟩) ?_
        refine ⟨_, _, _, _, hr2, ⟨rfl, rfl, rfl, rfl, trivial⟩, rfl, ?_⟩
        show TrQ _ _ _ _ _ _ _
        refine TrQ.go tblOK (drawOK tblOK) [30] (by kernel_rfl) (Le.sub (K' := [(3, vP 3), (5, vP 1001), (9, vP 7001), (110, vL .str N), (111, vI (N.length : Nat)), (112, vI (i : Nat)), (17, vL .u8 xa), (18, vI xe), (19, vL .u8 xa), (20, vI xe)]) (B' := cgB L2 Lw o) ⟨rfl, rfl, rfl, rfl, rfl, rfl, rfl, rfl, rfl, rfl, trivial⟩ ⟨rfl, rfl, rfl, rfl, rfl, rfl, rfl, rfl, rfl, trivial⟩) ?_
        refine ⟨fun h => ?_, fun _ => ?_⟩
        · exfalso
          have h : (!decide (xe = xe)) = true := h
          rw [decide_eq_true rfl] at h
          cases h
        refine ⟨fun h => ?_, fun _ => ?_⟩
        · exfalso
          have h : (!decide (xa = xa)) = true := h
          rw [decide_eq_true rfl] at h
          cases h
        exact ⟨by omega, i + 1, hi1, by omega, Le.sub ⟨rfl, rfl, rfl, rfl, rfl, rfl, trivial⟩ ⟨rfl, rfl, rfl, rfl, rfl, rfl, rfl, rfl, rfl, trivial⟩⟩
    · have h1 : downTo L2 k nm = cNm o := by
        have h1 : (!decide (downTo L2 k nm = cNm o)) = false := h1
        simpa using h1
      show TrQ _ _ _ _ _ _ _
      refine TrQ.go tblOK (drawOK tblOK) [24,25,26,27,30] (by kernel_rfl) (Le.sub (K' := cgK2 N i nm (downTo L2 k nm) k) (B' := cgB L2 Lw o) ⟨rfl, rfl, rfl, rfl, rfl, rfl, rfl, rfl, rfl, trivial⟩ ⟨rfl, rfl, rfl, rfl, rfl, rfl, rfl, rfl, rfl, trivial⟩) ?_
      refine ⟨fun _ => ?_, fun h => absurd h1 (of_decide_eq_false (show decide (downTo L2 k nm = cNm o) = false from h))⟩
      exact ⟨by omega, i + 1, hi1, by omega, Le.sub ⟨rfl, rfl, rfl, rfl, rfl, rfl, trivial⟩ ⟨rfl, rfl, rfl, rfl, rfl, rfl, rfl, rfl, rfl, trivial⟩⟩
  · show TrQ _ _ _ _ _ _ _
    refine TrQ.go tblOK (drawOK tblOK) [] (by kernel_rfl) (Le.refl _ _) ?_
    refine ⟨_, _, _, _, alive14_fn, trivial, rfl, ?_⟩
    exact ⟨_, _, _, Le.refl _ _, rfl, rfl, trivial, rfl⟩
end Go.Proofs.Ytbcngglcaeehbaa
