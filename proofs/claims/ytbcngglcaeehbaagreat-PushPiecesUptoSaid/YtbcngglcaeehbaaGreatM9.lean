/-
  PushPieces: the pieces rise, each once, all of the disk; of the whole disk there are all.
-/
import Derived.Test.YtbcngglcaeehbaaGreatLw
set_option linter.unusedVariables false
set_option linter.unusedSimpArgs false
set_option maxRecDepth 10000
namespace Go.Proofs.YtbcngglcaeehbaaGreat
open Go.RowKit Go.Proofs
theorem le_no {a b : Int} (h : a < b) (c : decide (b ≤ a) = true) : False := by
  have := of_decide_eq_true c
  omega
structure PcR (al : Bool) (z n0 : Nat) (done : Bool) (ps : List (El uPiec)) (q : Int) : Prop where
  at_ : ∀ (i : Nat) (h : i < ps.length), @LE.le Int _ 0 (ps[i]).1 ∧ @LT.lt Int _ (ps[i]).1 q ∧ List.length (α := UInt8) (ps[i]).2 = 32
  rise : ∀ (i : Nat) (h : i + 1 < ps.length), @LT.lt Int _ (ps[i]'(by omega)).1 (ps[i + 1]).1
  no : done = false → ps = []
  all : done = true → al = true → ((ps.length : Nat) : Int) = q
theorem pcR_of {L : List Dsk} {nm : List UInt8} {n0 z : Nat} {l : List Nat} {g : List (Nat × List UInt8)} {over done : Bool} {al : Bool} (h : PJ 1 40 L nm n0 l g over done) (hz : szOf L nm = z) (ha : al = true → n0 = z) (rm : Int) :
    ∃ ps q, Fn Tryz.prog 17 [vP 2001] (psB L nm (z : Nat) rm l g over done) [] (.tup [.one (.d (.lst uPiec ps)), .one (.d (.int .i64 q)), .one (.d (.bool done))]) (psB L nm (z : Nat) rm l g over done) ∧ ps.length ≤ 256 ∧ PcR al z n0 done ps q := by
  cases done with
  | true =>
    have hlen := pcs_len g
    have hgl := h.gl
    refine ⟨pcsL g, (z : Nat), h.resFn (z : Nat) rm over, by omega, fun i hi => ?_, fun i hi => pcs_rise h.gn hi, (fun e => by cases e), fun _ ea => by rw [hlen, h.dn rfl, ha ea]⟩
    obtain ⟨p, hp, e⟩ := pcs_in hi
    rw [e]
    obtain ⟨h1, h2⟩ := h.gt p hp
    rw [hz] at h1
    refine ⟨?_, ?_, h2⟩
    · show (0 : Int) ≤ ((p.1 : Nat) : Int)
      omega
    · show ((p.1 : Nat) : Int) < ((z : Nat) : Int)
      omega
  | false => exact ⟨[], 0, pures_no _ _ L nm (z : Nat) rm l g over, Nat.zero_le _, fun i hi => absurd hi (Nat.not_lt_zero i), fun i hi => absurd hi (Nat.not_lt_zero _), fun _ => rfl, fun e => by cases e⟩
@[reducible] def ppK (m : List Kop) (k : Nat) : KL := [(4, vP 4), (7, vP 1001), (8, vP 2001), (33, vL uKo m), (34, vI (m.length : Nat)), (35, vI (k : Nat))]
@[reducible] def ppK1 (m : List Kop) (k : Nat) : KL := [(4, vP 4), (7, vP 1001), (8, vP 2001), (33, vL uKo m), (34, vI (m.length : Nat)), (35, vI (k : Nat)), (11, vP 11)]
@[reducible] def ppB (L : List Dsk) (nm : List UInt8) (al : Bool) (gr z rm : Int) (ds : List Ext3) (l : List Nat) (g : List (Nat × List UInt8)) (over done : Bool) : BL := psB L nm z rm l g over done ++ [(4, .cells (steL nm al gr rm ds))]
@[reducible] def ppB1 (L : List Dsk) (nm : List UInt8) (al : Bool) (gr z rm : Int) (ds : List Ext3) (l : List Nat) (g : List (Nat × List UInt8)) (over done : Bool) (o : Kop) : BL := psB L nm z rm l g over done ++ [(4, .cells (steL nm al gr rm ds)), (11, .cells (kopL o))]
@[reducible] def ppK2 (n k : Nat) : KL := [(4, vP 4), (8, vP 2001), (64, vI (n : Nat)), (65, vI (k : Nat))]
@[reducible] def ppK3 (ps : List (El uPiec)) (q last : Int) (done : Bool) (i : Nat) : KL := [(4, vP 4), (12, vL uPiec ps), (13, vI q), (14, vB done), (15, vI last), (76, vL uPiec ps), (77, vI (ps.length : Nat)), (78, vI (i : Nat))]
set_option maxHeartbeats 2000000 in
theorem pushPieces_fn (l : List Cop) (nm : List UInt8) (al : Bool) (gr rm : Int) (ds : List Ext3) (m : List Kop) (hl : l.length ≤ 1073741824) (ht : (l.map cTot).sum ≤ 1073741824) (hl2 : m.length ≤ 1073741824) (ht2 : (m.map kTot).sum ≤ 1073741824) (hrg : rngK m) :
    Fn Tryz.prog 3 [vL uC l, steV nm al gr rm ds, vL uKo m] [] [] (vB true) [] := by
  have hfn := few17_fn l m hl ht hl2 ht2
  refine Fn.of tblOK [3,6,10,11,13,15,17,26] _ _ _ _ _ Tryz.func3 rfl rfl (by kernel_rfl) (by kernel_rfl) rfl (drawOK tblOK) rfl ?_
  refine ⟨rfl, ?_⟩
  refine ⟨_, _, _, _, hfn, trivial, rfl, ?_⟩
  refine ⟨fun _ => ?_, fun hf => ?_⟩
  · refine ⟨_, _, _, _, alive17_fn, trivial, rfl, ?_⟩
    exact ⟨_, _, _, Le.refl _ _, rfl, rfl, trivial, rfl⟩
  have hfew : fewK l m = true := by
    have hf : (!fewK l m) = false := hf
    simpa using hf
  obtain ⟨hll, hob, hom⟩ := fewK_get hfew
  have hbg := begun_fn l nm al gr rm ds hob (by omega)
  show TrQ _ _ _ _ _ _ _
  refine TrQ.le (Le.sub (K' := [(0, vL uC l), (2, vL uKo m), (4, vP 4)]) (B' := [(4, .cells (steL nm al gr rm ds))]) ⟨rfl, rfl, rfl, trivial⟩ ⟨rfl, trivial⟩) ?_
  refine TrQ.regionX tblOK (by kernel_rfl) ?_
  refine ⟨_, _, _, fun g => _, fun g => _, hbg, trivial, rfl, bg_out, fun g => ?_⟩
  obtain ⟨⟨L, ok, l0⟩, hx⟩ := g
  cases ok with
  | false =>
    refine ⟨fun _ => ?_, fun h => absurd h (by decide)⟩
    refine ⟨_, _, _, _, alive17_fn, trivial, rfl, ?_⟩
    exact ⟨_, _, _, Le.refl _ _, rfl, rfl, trivial, rfl⟩
  | true =>
    have hx := hx rfl
    have hP : PI 1 40 L nm l0 [] := PI.beg hx
    have hJ := PJ.beg hP
    have hal : al = true → l0.length = szOf L nm := hx.all
    refine ⟨fun h => absurd h (by decide), fun _ => ?_⟩
    generalize hz : szOf L nm = z at *
    generalize l0.length = n0 at *
    show TrQ _ _ _ _ _ _ _
    refine TrQ.go tblOK (drawOK tblOK) [10,11,13,15,17,26] (by kernel_rfl) (Le.sub (K' := [(2, vL uKo m), (4, vP 4), (7, vP 1001), (8, vP 2001)]) (B' := ppB L nm al gr (z : Nat) rm ds l0 [] false false) ⟨rfl, rfl, rfl, rfl, trivial⟩ ⟨rfl, rfl, rfl, rfl, by rw [← hz]; rfl, rfl, rfl, rfl, trivial⟩) ?_
    show TrQ _ _ _ _ _ _ _
    refine TrQ.loop tblOK (drawOK tblOK) [10,11,13,15,17,26] (by kernel_rfl) (X := Nat × List Dsk × List Nat × List (Nat × List UInt8) × Bool) (fun x => ppK m x.1) (fun x => ppB x.2.1 nm al gr (z : Nat) rm ds x.2.2.1 x.2.2.2.1 x.2.2.2.2 false) (fun x => x.1 ≤ m.length ∧ PJ 1 40 x.2.1 nm n0 x.2.2.1 x.2.2.2.1 x.2.2.2.2 false ∧ szOf x.2.1 nm = z) (fun x => m.length - x.1) (0, L, l0, [], false) ⟨Nat.zero_le _, hJ, hz⟩ ?_ ?_
    · exact Le.sub ⟨rfl, rfl, rfl, rfl, rfl, rfl, trivial⟩ ⟨rfl, rfl, rfl, rfl, rfl, rfl, rfl, rfl, trivial⟩
    rintro ⟨k, L2, l2, g2, over⟩ ⟨hk, hJ2, hz2⟩
    have hk : k ≤ m.length := hk
    have hJ2 : PJ 1 40 L2 nm n0 l2 g2 over false := hJ2
    have hz2 : szOf L2 nm = z := hz2
    refine ⟨fun hc => ?_, fun hc => ?_⟩
    · have hc : decide ((k : Int) < ((m.length : Nat) : Int)) = true := hc
      have hk1 : k < m.length := by have := of_decide_eq_true hc; omega
      have hmem := List.getElem_mem hk1
      have hO := hom _ hmem
      have hR := hrg _ hmem
      have hget := lgAt (n := k) hk1
      generalize m[k] = o at *
      have hqb : (qB (cQ (kO o))).length ≤ 1000000 := by unfold kTot at hO; omega
      have hto : (qB (cQ (kO o))).length + (cNm (kO o)).length ≤ 1000000 := by unfold kTot at hO; omega
      have hlo := long17_fn (kO o) hqb
      have hbf := hJ2.bfFn (z : Nat) rm over false (qA (cQ (kO o))) (long17 (kO o)) (long17_le hR hqb)
      have hkb := hJ2.bfx rm (qA (cQ (kO o))) (long17 (kO o))
      refine ⟨by omega, o, hget, ?_⟩
      refine ⟨rfl, ?_⟩
      refine ⟨fun c1 => ?_, fun c1 => ?_⟩
      · refine ⟨fun c3 => ?_, fun c3 => ?_⟩
        · have c3 : cK (kO o) = 3 := of_decide_eq_true c3
          show TrQ _ _ _ _ _ _ _
          refine TrQ.go tblOK (drawOK tblOK) [11,13,15,17,26] (by kernel_rfl) (Le.sub (K' := ppK1 m k) (B' := ppB1 L2 nm al gr (z : Nat) rm ds l2 g2 over false o) ⟨rfl, rfl, rfl, rfl, rfl, rfl, rfl, trivial⟩ ⟨rfl, rfl, rfl, rfl, rfl, rfl, rfl, rfl, rfl, trivial⟩) ?_
          refine ⟨_, _, _, _, hlo, trivial, rfl, ?_⟩
          refine ⟨_, _, _, _, hbf, ⟨rfl, rfl, rfl, rfl, rfl, rfl, rfl, trivial⟩, rfl, ?_⟩
          refine ⟨indep_of (by kernel_rfl), ?_⟩
          have hds := does17w_fn hJ2.cs (kO o) hto
          generalize pubfx 1 L2 nm rm (qA (cQ (kO o))) (long17 (kO o)) l2 g2 over = R at *
          show TrQ _ _ _ _ _ _ _
          refine TrQ.le (Le.sub (K' := ppK1 m k) (B' := ppB1 L2 nm al gr (z : Nat) rm ds R.l R.g R.over false o) ⟨rfl, rfl, rfl, rfl, rfl, rfl, rfl, trivial⟩ ⟨rfl, rfl, rfl, rfl, rfl, rfl, rfl, rfl, rfl, trivial⟩) ?_
          refine TrQ.regionX tblOK (by kernel_rfl) ?_
          refine ⟨_, _, _, fun g => _, fun g => _, hds, ⟨rfl, rfl, rfl, rfl, trivial⟩, rfl, fun _ => rfl, fun g => ?_⟩
          have hlm : Lm L2 (cNm (kO o)) (doD 1 40 L2 (kO o) g.1).L := by rw [doD3 c3]; exact doW_lm hJ2.cs _ _
          exact ⟨by omega, (k + 1, (doD 1 40 L2 (kO o) g.1).L, R.l, R.g, R.over), ⟨hk1, hkb.lm hlm, (hlm.sz nm).1.trans hz2⟩, by show m.length - (k + 1) < m.length - k; omega, Le.sub ⟨rfl, rfl, rfl, rfl, rfl, rfl, trivial⟩ ⟨rfl, rfl, rfl, rfl, rfl, rfl, rfl, rfl, trivial⟩⟩
        · exact ⟨by omega, (k + 1, L2, l2, g2, over), ⟨hk1, hJ2, hz2⟩, by show m.length - (k + 1) < m.length - k; omega, Le.sub ⟨rfl, rfl, rfl, rfl, rfl, rfl, trivial⟩ ⟨rfl, rfl, rfl, rfl, rfl, rfl, rfl, rfl, trivial⟩⟩
      · exact ⟨by omega, (k + 1, L2, l2, g2, over), ⟨hk1, hJ2, hz2⟩, by show m.length - (k + 1) < m.length - k; omega, Le.sub ⟨rfl, rfl, rfl, rfl, rfl, rfl, trivial⟩ ⟨rfl, rfl, rfl, rfl, rfl, rfl, rfl, rfl, trivial⟩⟩
    · have hlf := puleft_fn ((1 : Nat) : Int) ((40 : Nat) : Int) L2 nm (z : Nat) rm l2 g2 over false
      have hll2 := hJ2.ll
      have mn : (-9223372036854775808 : Int) ≤ ((l2.length : Nat) : Int) + 1 ∧ ((l2.length : Nat) : Int) + 1 ≤ 9223372036854775807 := by omega
      generalize hnn : l2.length = nn at *
      show TrQ _ _ _ _ _ _ _
      refine TrQ.go tblOK (drawOK tblOK) [15,17,26] (by kernel_rfl) (Le.refl _ _) ?_
      refine ⟨_, _, _, _, hlf, ⟨rfl, rfl, rfl, rfl, rfl, rfl, rfl, trivial⟩, rfl, ?_⟩
      refine ⟨mn, ?_⟩
      show TrQ _ _ _ _ _ _ _
      refine TrQ.loop tblOK (drawOK tblOK) [15,17,26] (by kernel_rfl) (X := Nat × List Nat × List (Nat × List UInt8) × Bool × Bool) (fun x => ppK2 (nn + 1) x.1) (fun x => ppB L2 nm al gr (z : Nat) rm ds x.2.1 x.2.2.1 x.2.2.2.1 x.2.2.2.2) (fun x => x.1 ≤ nn + 1 ∧ PJ 1 40 L2 nm n0 x.2.1 x.2.2.1 x.2.2.2.1 x.2.2.2.2) (fun x => nn + 1 - x.1) (0, l2, g2, over, false) ⟨Nat.zero_le _, hJ2⟩ ?_ ?_
      · exact Le.sub ⟨rfl, rfl, rfl, rfl, trivial⟩ ⟨rfl, rfl, rfl, rfl, rfl, rfl, rfl, rfl, trivial⟩
      rintro ⟨j, l3, g3, over3, done3⟩ ⟨hj, hJ3⟩
      have hj : j ≤ nn + 1 := hj
      have hJ3 : PJ 1 40 L2 nm n0 l3 g3 over3 done3 := hJ3
      have hst := hJ3.stepFn (z : Nat) rm over3 done3
      have hkp := hJ3.step rm
      refine ⟨fun hc => ?_, fun hc => ?_⟩
      · have hc : decide ((j : Int) < ((nn + 1 : Nat) : Int)) = true := hc
        have hj1 : j < nn + 1 := by have := of_decide_eq_true hc; omega
        show TrQ _ _ _ _ _ _ _
        refine TrQ.go tblOK (drawOK tblOK) [17,26] (by kernel_rfl) (Le.refl _ _) ?_
        refine ⟨_, _, _, _, hst, ⟨rfl, rfl, rfl, rfl, rfl, rfl, rfl, trivial⟩, rfl, ?_⟩
        exact ⟨by omega, (j + 1, _, _, _, _), ⟨hj1, hkp⟩, by show nn + 1 - (j + 1) < nn + 1 - j; omega, Le.sub ⟨rfl, rfl, rfl, rfl, trivial⟩ ⟨rfl, rfl, rfl, rfl, rfl, rfl, rfl, rfl, trivial⟩⟩
      · obtain ⟨ps, q, hres, hp256, hR⟩ := pcR_of (al := al) hJ3 hz2 hal rm
        show TrQ _ _ _ _ _ _ _
        refine TrQ.go tblOK (drawOK tblOK) [26] (by kernel_rfl) (Le.refl _ _) ?_
        refine ⟨_, _, _, _, hres, ⟨rfl, rfl, rfl, rfl, rfl, rfl, rfl, trivial⟩, rfl, ?_⟩
        show TrQ _ _ _ _ _ _ _
        refine TrQ.loop tblOK (drawOK tblOK) [26] (by kernel_rfl) (X := Nat × Int) (fun x => ppK3 ps q x.2 done3 x.1) (fun x => [(4, .cells (steL nm al gr rm ds))]) (fun x => x.1 ≤ ps.length ∧ ∀ h : x.1 < ps.length, @LT.lt Int _ x.2 (ps[x.1]).1) (fun x => ps.length - x.1) (0, -1) ⟨Nat.zero_le _, fun h => by have := (hR.at_ 0 h).1; show (-1 : Int) < (ps[0]).1; omega⟩ ?_ ?_
        · exact Le.sub ⟨rfl, rfl, rfl, rfl, rfl, rfl, rfl, rfl, trivial⟩ ⟨rfl, trivial⟩
        rintro ⟨i, last⟩ ⟨hi, hla⟩
        have hi : i ≤ ps.length := hi
        have hla : ∀ h : i < ps.length, @LT.lt Int _ last (ps[i]).1 := hla
        refine ⟨fun hc => ?_, fun hc => ?_⟩
        · have hc : decide ((i : Int) < ((ps.length : Nat) : Int)) = true := hc
          have hi1 : i < ps.length := by have := of_decide_eq_true hc; omega
          have hnx : ∀ h : i + 1 < ps.length, @LT.lt Int _ (ps[i]).1 (ps[i + 1]).1 := fun h => hR.rise i h
          have hla := hla hi1
          obtain ⟨a1, a2, a3⟩ := hR.at_ i hi1
          have hget := lgAt (n := i) hi1
          generalize ps[i] = p at *
          obtain ⟨pc, pb⟩ := p
          have hla : @LT.lt Int _ last pc := hla
          have a2 : @LT.lt Int _ pc q := a2
          have a3 : List.length (α := UInt8) pb = 32 := a3
          refine ⟨by omega, _, hget, ?_⟩
          refine ⟨rfl, ?_⟩
          refine ⟨fun c => (le_no hla c).elim, fun _ => ?_⟩
          refine ⟨fun c => (le_no a2 c).elim, fun _ => ?_⟩
          refine ⟨fun c => ?_, fun _ => ?_⟩
          · exfalso
            have c : (!decide (((List.length (α := UInt8) pb : Nat) : Int) = 32)) = true := c
            rw [decide_eq_true (by omega)] at c
            cases c
          exact ⟨by omega, (i + 1, pc), ⟨hi1, hnx⟩, by show ps.length - (i + 1) < ps.length - i; omega, Le.sub ⟨rfl, rfl, rfl, rfl, rfl, rfl, rfl, rfl, trivial⟩ ⟨rfl, trivial⟩⟩
        · show TrQ _ _ _ _ _ _ _
          cases done3 with
          | false =>
            have hps := hR.no rfl
            subst hps
            refine TrQ.go tblOK (drawOK tblOK) [] (by kernel_rfl) (Le.refl _ _) ?_
            refine ⟨_, _, _, _, alive17_fn, trivial, rfl, ?_⟩
            refine ⟨fun _ => ?_, fun h => absurd h (by decide)⟩
            refine ⟨fun _ => ?_, fun h => absurd h (by decide)⟩
            refine ⟨fun h => absurd h (by decide), fun _ => ?_⟩
            exact ⟨_, _, _, Le.refl _ _, rfl, rfl, trivial, rfl⟩
          | true =>
            refine TrQ.go tblOK (drawOK tblOK) [] (by kernel_rfl) (Le.refl _ _) ?_
            refine ⟨_, _, _, _, alive17_fn, trivial, rfl, ?_⟩
            refine ⟨fun _ => ?_, fun h => absurd h (by decide)⟩
            refine ⟨fun h => absurd h (by decide), fun _ => ?_⟩
            refine ⟨fun ha => ?_, fun ha => ?_⟩
            · refine ⟨fun _ => ?_, fun h => absurd h (by decide)⟩
              exact ⟨_, _, _, Le.refl _ _, rfl, rfl, trivial, rfl⟩
            · have ha : (!al) = false := ha
              have ha : al = true := by simpa using ha
              have hq := hR.all rfl ha
              refine ⟨fun _ => ?_, fun h => absurd (of_decide_eq_false (show decide (((ps.length : Nat) : Int) = q) = false from h)) (fun e => e hq)⟩
              refine ⟨fun _ => ?_, fun h => absurd h (by decide)⟩
              exact ⟨_, _, _, Le.refl _ _, rfl, rfl, trivial, rfl⟩
end Go.Proofs.YtbcngglcaeehbaaGreat
