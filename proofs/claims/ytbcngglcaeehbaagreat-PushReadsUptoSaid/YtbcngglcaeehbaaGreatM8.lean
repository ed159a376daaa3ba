/-
  PushReads: a job changes nothing of the disk.
-/
import Derived.Test.YtbcngglcaeehbaaGreatLw
set_option linter.unusedVariables false
set_option linter.unusedSimpArgs false
set_option maxRecDepth 10000
namespace Go.Proofs.YtbcngglcaeehbaaGreat
open Go.RowKit Go.Proofs
@[reducible] def prcK (m : List Kop) (n free : Int) (was : List UInt8) (k : Nat) : KL := [(4, vP 4), (7, vP 1001), (8, vP 2001), (10, vI n), (11, vL .u8 was), (13, vI free), (52, vL uKo m), (53, vI (m.length : Nat)), (54, vI (k : Nat))]
@[reducible] def prcB (L : List Dsk) (nm : List UInt8) (al : Bool) (gr z rm : Int) (ds : List Ext3) (l : List Nat) (g : List (Nat × List UInt8)) (over done : Bool) : BL := psB L nm z rm l g over done ++ [(4, .cells (steL nm al gr rm ds))]
@[reducible] def prcK2 (m : List Kop) (n free : Int) (was : List UInt8) (k : Nat) : KL := [(4, vP 4), (7, vP 1001), (8, vP 2001), (10, vI n), (11, vL .u8 was), (13, vI free), (52, vL uKo m), (53, vI (m.length : Nat)), (54, vI (k : Nat)), (15, vP 15)]
@[reducible] def prcB2 (L : List Dsk) (nm : List UInt8) (al : Bool) (gr z rm : Int) (ds : List Ext3) (l : List Nat) (g : List (Nat × List UInt8)) (over done : Bool) (o : Kop) : BL := psB L nm z rm l g over done ++ [(4, .cells (steL nm al gr rm ds)), (15, .cells (kopL o))]
set_option maxHeartbeats 2000000 in
theorem pushReads_fn (l : List Cop) (nm : List UInt8) (al : Bool) (gr rm : Int) (ds : List Ext3) (m : List Kop) (hl : l.length ≤ 1073741824) (ht : (l.map cTot).sum ≤ 1073741824) (hl2 : m.length ≤ 1073741824) (ht2 : (m.map kTot).sum ≤ 1073741824) (hrg : rngK m) :
    Fn Tryz.prog 6 [vL uC l, steV nm al gr rm ds, vL uKo m] [] [] (vB true) [] := by
  have hfn := few17_fn l m hl ht hl2 ht2
  refine Fn.of tblOK [3,6,7,8,14,16,18,20,21] _ _ _ _ _ Tryz.func6 rfl rfl (by kernel_rfl) (by kernel_rfl) rfl (drawOK tblOK) rfl ?_
  refine ⟨rfl, ?_⟩
  refine ⟨_, _, _, _, hfn, trivial, rfl, ?_⟩
  refine ⟨fun _ => ?_, fun hf => ?_⟩
  · refine ⟨_, _, _, _, alive17_fn, trivial, rfl, ?_⟩
    exact ⟨_, _, _, Le.refl _ _, rfl, rfl, trivial, rfl⟩
  have hfew : fewK l m = true := by
    have hf : (!fewK l m) = false := hf
    simpa using hf
  obtain ⟨hll, hob, hom⟩ := fewK_get hfew
  have hbg := begun_fn l nm al gr rm ds hob (by omega)
  show TrQ _ _ _ _ _ _ _
  refine TrQ.le (Le.sub (K' := [(0, vL uC l), (2, vL uKo m), (4, vP 4)]) (B' := [(4, .cells (steL nm al gr rm ds))]) ⟨rfl, rfl, rfl, trivial⟩ ⟨rfl, trivial⟩) ?_
  refine TrQ.regionX tblOK (by kernel_rfl) ?_
  refine ⟨_, _, _, fun g => _, fun g => _, hbg, trivial, rfl, bg_out, fun g => ?_⟩
  obtain ⟨⟨L, ok, l0⟩, hx⟩ := g
  cases ok with
  | false =>
    refine ⟨fun _ => ?_, fun h => absurd h (by decide)⟩
    refine ⟨_, _, _, _, alive17_fn, trivial, rfl, ?_⟩
    exact ⟨_, _, _, Le.refl _ _, rfl, rfl, trivial, rfl⟩
  | true =>
    have hx := hx rfl
    have hP : PI 1 40 L nm l0 [] := PI.beg hx
    obtain ⟨d, hd⟩ := hP.get
    have hC := hP.cs
    have hLm := hC.toChN.M (dk_get hd).1
    have htl := (hC.ims d (dk_get hd).1).1.tl
    have hll5 := (hC.ims d (dk_get hd).1).1.ll
    have es1 := shl1 d.im.t.length
    have m1 : (0 : Int) ≤ ((d.im.t.length : Nat) : Int) ∧ (0 : Int) ≤ (1 : Int) ∧ (1 : Int) ≤ 64 := by omega
    have m2 : (-9223372036854775808 : Int) ≤ ((d.im.t.length : Nat) : Int) * ((2 ^ (1 : Int).toNat : Nat) : Int) ∧ ((d.im.t.length : Nat) : Int) * ((2 ^ (1 : Int).toNat : Nat) : Int) ≤ 9223372036854775807 := by rw [es1]; omega
    have him := image_fn ((1 : Nat) : Int) ((40 : Nat) : Int) L hC.toChN nm d hd
    have hrd := chread_fn hC nm 0 (((d.im.t.length : Nat) : Int) * ((2 ^ (1 : Int).toNat : Nat) : Int))
    refine ⟨fun h => absurd h (by decide), fun _ => ?_⟩
    generalize hz : ((szOf L nm : Nat) : Int) = z
    generalize hN : ((d.im.t.length : Nat) : Int) * ((2 ^ (1 : Int).toNat : Nat) : Int) = N0 at *
    generalize (rdC 1 L nm 0 N0).1 = was at *
    generalize (rdC 1 L nm 0 N0).2 = we at *
    have hfr := imFn (ifree_fn d.im (by omega)) hLm rfl rfl rfl rfl
    generalize ((zeros d.im.l : Nat) : Int) = free at *
    show TrQ _ _ _ _ _ _ _
    refine TrQ.go tblOK (drawOK tblOK) [7,8,14,16,18,20,21] (by kernel_rfl) (Le.sub (K' := [(2, vL uKo m), (4, vP 4), (7, vP 1001), (8, vP 2001)]) (B' := prcB L nm al gr z rm ds l0 [] false false) ⟨rfl, rfl, rfl, rfl, trivial⟩ ⟨rfl, rfl, rfl, rfl, by rw [← hz]; rfl, rfl, rfl, rfl, trivial⟩) ?_
    refine ⟨_, _, _, _, him, ⟨rfl, rfl, rfl, rfl, trivial⟩, rfl, ?_⟩
    refine ⟨_, _, _, _, imFn (isize_fn d.im) hLm rfl rfl rfl rfl, ⟨rfl, trivial⟩, rfl, ?_⟩
    refine ⟨m1, by rw [hN]; exact m2, ?_⟩
    show TrQ _ _ _ _ _ _ _
    refine TrQ.go tblOK (drawOK tblOK) [8,14,16,18,20,21] (by kernel_rfl) (Le.sub (K' := [(2, vL uKo m), (4, vP 4), (7, vP 1001), (8, vP 2001), (10, vI N0)]) (B' := prcB L nm al gr z rm ds l0 [] false false) ⟨rfl, rfl, rfl, rfl, hN, trivial⟩ ⟨rfl, rfl, rfl, rfl, rfl, rfl, rfl, rfl, trivial⟩) ?_
    refine ⟨_, _, _, _, hrd, ⟨rfl, rfl, rfl, rfl, trivial⟩, rfl, ?_⟩
    show TrQ _ _ _ _ _ _ _
    refine TrQ.go tblOK (drawOK tblOK) [14,16,18,20,21] (by kernel_rfl) (Le.sub (K' := [(2, vL uKo m), (4, vP 4), (7, vP 1001), (8, vP 2001), (10, vI N0), (11, vL .u8 was)]) (B' := prcB L nm al gr z rm ds l0 [] false false) ⟨rfl, rfl, rfl, rfl, rfl, rfl, trivial⟩ ⟨rfl, rfl, rfl, rfl, rfl, rfl, rfl, rfl, trivial⟩) ?_
    refine ⟨_, _, _, _, him, ⟨rfl, rfl, rfl, rfl, trivial⟩, rfl, ?_⟩
    refine ⟨_, _, _, _, hfr, ⟨rfl, trivial⟩, rfl, ?_⟩
    show TrQ _ _ _ _ _ _ _
    refine TrQ.loop tblOK (drawOK tblOK) [14,16,18,20,21] (by kernel_rfl) (X := Nat × List Nat × List (Nat × List UInt8) × Bool × Bool) (fun x => prcK m N0 free was x.1) (fun x => prcB L nm al gr z rm ds x.2.1 x.2.2.1 x.2.2.2.1 x.2.2.2.2) (fun x => x.1 ≤ m.length ∧ PI 1 40 L nm x.2.1 x.2.2.1) (fun x => m.length - x.1) (0, l0, [], false, false) ⟨Nat.zero_le _, hP⟩ ?_ ?_
    · exact Le.sub ⟨rfl, rfl, rfl, rfl, rfl, rfl, rfl, rfl, rfl, trivial⟩ ⟨rfl, rfl, rfl, rfl, rfl, rfl, rfl, rfl, trivial⟩
    rintro ⟨k, l2, g2, over, done⟩ ⟨hk, hP2⟩
    have hk : k ≤ m.length := hk
    have hP2 : PI 1 40 L nm l2 g2 := hP2
    refine ⟨fun hc => ?_, fun hc => ?_⟩
    · have hc : decide ((k : Int) < ((m.length : Nat) : Int)) = true := hc
      have hk1 : k < m.length := by have := of_decide_eq_true hc; omega
      have hmem := List.getElem_mem hk1
      have hO := hom _ hmem
      have hR := hrg _ hmem
      have hget := lgAt (n := k) hk1
      generalize m[k] = o at *
      have hqb : (qB (cQ (kO o))).length ≤ 1000000 := by unfold kTot at hO; omega
      have hlo := long17_fn (kO o) hqb
      have hst := hP2.stepFn z rm over done
      have hkp := hP2.step rm over done
      have hbf := hP2.bfFn z rm over done (qA (cQ (kO o))) (long17 (kO o)) (long17_le hR hqb)
      have hkb := hP2.bfx rm (qA (cQ (kO o))) (long17 (kO o)) over
      refine ⟨by omega, o, hget, ?_⟩
      refine ⟨rfl, ?_⟩
      refine ⟨fun c0 => ?_, fun c0 => ?_⟩
      · show TrQ _ _ _ _ _ _ _
        refine TrQ.go tblOK (drawOK tblOK) [16,18,20,21] (by kernel_rfl) (Le.sub (K' := prcK m N0 free was k) (B' := prcB L nm al gr z rm ds l2 g2 over done) ⟨rfl, rfl, rfl, rfl, rfl, rfl, rfl, rfl, rfl, trivial⟩ ⟨rfl, rfl, rfl, rfl, rfl, rfl, rfl, rfl, trivial⟩) ?_
        refine ⟨_, _, _, _, hst, ⟨rfl, rfl, rfl, rfl, rfl, rfl, rfl, trivial⟩, rfl, ?_⟩
        exact ⟨by omega, (k + 1, _, _, _, _), ⟨hk1, hkp⟩, by show m.length - (k + 1) < m.length - k; omega, Le.sub ⟨rfl, rfl, rfl, rfl, rfl, rfl, rfl, rfl, rfl, trivial⟩ ⟨rfl, rfl, rfl, rfl, rfl, rfl, rfl, rfl, trivial⟩⟩
      refine ⟨fun c1 => ?_, fun c1 => ?_⟩
      · show TrQ _ _ _ _ _ _ _
        refine TrQ.go tblOK (drawOK tblOK) [18,20,21] (by kernel_rfl) (Le.sub (K' := prcK2 m N0 free was k) (B' := prcB2 L nm al gr z rm ds l2 g2 over done o) ⟨rfl, rfl, rfl, rfl, rfl, rfl, rfl, rfl, rfl, rfl, trivial⟩ ⟨rfl, rfl, rfl, rfl, rfl, rfl, rfl, rfl, rfl, trivial⟩) ?_
        refine ⟨_, _, _, _, hlo, trivial, rfl, ?_⟩
        refine ⟨_, _, _, _, hbf, ⟨rfl, rfl, rfl, rfl, rfl, rfl, rfl, trivial⟩, rfl, ?_⟩
        refine ⟨indep_of (by kernel_rfl), ?_⟩
        exact ⟨by omega, (k + 1, _, _, _, _), ⟨hk1, hkb⟩, by show m.length - (k + 1) < m.length - k; omega, Le.sub ⟨rfl, rfl, rfl, rfl, rfl, rfl, rfl, rfl, rfl, trivial⟩ ⟨rfl, rfl, rfl, rfl, rfl, rfl, rfl, rfl, trivial⟩⟩
      refine ⟨fun c2 => ?_, fun c2 => ?_⟩
      · show TrQ _ _ _ _ _ _ _
        refine TrQ.go tblOK (drawOK tblOK) [20,21] (by kernel_rfl) (Le.sub (K' := prcK m N0 free was k) (B' := prcB L nm al gr z rm ds l2 g2 over done) ⟨rfl, rfl, rfl, rfl, rfl, rfl, rfl, rfl, rfl, trivial⟩ ⟨rfl, rfl, rfl, rfl, rfl, rfl, rfl, rfl, trivial⟩) ?_
        refine ⟨_, _, _, _, pucancel_fn _ _ L nm z rm l2 g2 over done, ⟨rfl, rfl, rfl, rfl, rfl, rfl, rfl, trivial⟩, rfl, ?_⟩
        exact ⟨by omega, (k + 1, [], g2, true, done), ⟨hk1, hP2.nil⟩, by show m.length - (k + 1) < m.length - k; omega, Le.sub ⟨rfl, rfl, rfl, rfl, rfl, rfl, rfl, rfl, rfl, trivial⟩ ⟨rfl, rfl, rfl, rfl, rfl, rfl, rfl, rfl, trivial⟩⟩
      · exact ⟨by omega, (k + 1, l2, g2, over, done), ⟨hk1, hP2⟩, by show m.length - (k + 1) < m.length - k; omega, Le.sub ⟨rfl, rfl, rfl, rfl, rfl, rfl, rfl, rfl, rfl, trivial⟩ ⟨rfl, rfl, rfl, rfl, rfl, rfl, rfl, rfl, trivial⟩⟩
    · show TrQ _ _ _ _ _ _ _
      refine TrQ.go tblOK (drawOK tblOK) [21] (by kernel_rfl) (Le.refl _ _) ?_
      refine ⟨_, _, _, _, hrd, ⟨rfl, rfl, rfl, rfl, trivial⟩, rfl, ?_⟩
      show TrQ _ _ _ _ _ _ _
      refine TrQ.go tblOK (drawOK tblOK) [] (by kernel_rfl) (Le.sub (K' := [(4, vP 4), (7, vP 1001), (11, vL .u8 was), (13, vI free), (16, vL .u8 was)]) (B' := prcB L nm al gr z rm ds l2 g2 over done) ⟨rfl, rfl, rfl, rfl, rfl, trivial⟩ ⟨rfl, rfl, rfl, rfl, rfl, rfl, rfl, rfl, trivial⟩) ?_
      refine ⟨_, _, _, _, alive17_fn, trivial, rfl, ?_⟩
      refine ⟨fun _ => ?_, fun h => absurd h (by decide)⟩
      refine ⟨fun _ => ?_, fun h => ?_⟩
      · refine ⟨_, _, _, _, him, ⟨rfl, rfl, rfl, rfl, trivial⟩, rfl, ?_⟩
        refine ⟨_, _, _, _, hfr, ⟨rfl, trivial⟩, rfl, ?_⟩
        exact ⟨_, _, _, Le.refl _ _, rfl, (show decide (free = free) = true from decide_eq_true rfl), trivial, rfl⟩
      · exfalso
        have h : decide (was = was) = false := h
        rw [decide_eq_true rfl] at h
        cases h
end Go.Proofs.YtbcngglcaeehbaaGreat
