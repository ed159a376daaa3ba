/-
  ChainDiscards: an image of which all is discarded reads as its backing one does.
-/
import Derived.Test.YtclklmajbnadcaaRp
set_option linter.unusedVariables false
set_option linter.unusedSimpArgs false
set_option maxRecDepth 10000
namespace Go.Proofs.Ytclklmajbnadcaa
open Go.RowKit Go.Proofs

theorem rdC_ok {bits room : Nat} {L : List Dsk} (h : CS bits room L) {nm : List UInt8} {d : Dsk} (hd : dk L nm = some d) {n : Nat} (hn : n ≤ iall d.im) : rdC bits L nm 0 (n : Int) = (crdK bits L nm (dpt L nm) 0 n, 0) := by
  unfold rdC
  rw [hd]
  simp only
  rw [if_pos (iIns_zero (h.ims d (dk_get hd).1).1 hn)]
  rfl
theorem shl1 (n : Nat) : (n : Int) * ((2 ^ (1 : Int).toNat : Nat) : Int) = ((n * 2 : Nat) : Int) := by
  show (n : Int) * 2 = _
  omega
theorem iall_one {bits room : Nat} {L : List Dsk} (h : CS bits room L) {nm : List UInt8} {d : Dsk} (hd : dk L nm = some d) : iall d.im = d.im.t.length * 2 ^ bits := by
  unfold iall
  rw [(h.ims d (dk_get hd).1).2.1]
@[reducible] def ucK (nm : List UInt8) (l : List Cop) (k : Nat) : KL := [(0, vL uC l), (1, vS nm), (5, vP 1001), (42, vL uC l), (43, vI (l.length : Nat)), (44, vI (k : Nat))]
set_option maxHeartbeats 1000000 in
theorem chainDiscards_fn (l : List Cop) (nm : List UInt8) (hl : l.length ≤ 1073741824) (ht : (l.map cTot).sum ≤ 1073741824) : Fn Try.prog 7 [vL uC l, vS nm] [] [] (vB true) [] := by
  refine Fn.of tblOK [12,14,15] _ _ _ _ _ Try.func7 rfl rfl (by kernel_rfl) (by kernel_rfl) rfl (drawOK tblOK) rfl ?_
  refine ⟨_, _, _, _, chnew_ok 1 40 (by decide) (by decide), trivial, rfl, ?_⟩
  refine ⟨fun h => absurd h (by decide), fun _ => ?_⟩
  refine ⟨_, _, _, _, few14_fn l hl ht, trivial, rfl, ?_⟩
  refine ⟨fun _ => ?_, fun hf => ?_⟩
  · refine ⟨fun _ => ?_, fun h => absurd h (by decide)⟩
    refine ⟨_, _, _, _, alive14_fn, trivial, rfl, ?_⟩
    exact ⟨_, _, _, Le.refl _ _, rfl, rfl, trivial, rfl⟩
  have hfew : fewO 40 l = true := by
    have hf : (!fewO 40 l) = false := hf
    simpa using hf
  obtain ⟨hll, -, hob⟩ := fewO_get hfew
  show TrQ _ _ _ _ _ _ _
  refine TrQ.loop tblOK (drawOK tblOK) [7] (by kernel_rfl) (X := Nat × List Dsk) (fun x => ucK nm l x.1) (fun x => chB 1 40 x.2) (fun x => x.1 ≤ l.length ∧ CS 1 40 x.2) (fun x => l.length - x.1) (0, []) ⟨Nat.zero_le _, CS.nil (by decide) (by decide)⟩ ?_ ?_
  · exact Le.sub ⟨rfl, rfl, rfl, rfl, rfl, rfl, trivial⟩ ⟨rfl, rfl, rfl, rfl, trivial⟩
  rintro ⟨k, L⟩ ⟨hk, hC⟩
  have hk : k ≤ l.length := hk
  have hC : CS 1 40 L := hC
  refine ⟨fun hc => ?_, fun _ => ?_⟩
  · have hc : decide ((k : Int) < ((l.length : Nat) : Int)) = true := hc
    have hk1 : k < l.length := by have := of_decide_eq_true hc; omega
    have hO := (hob _ (List.getElem_mem hk1)).1
    refine ⟨by omega, l[k], lgAt (n := k) hk1, ?_⟩
    refine ⟨rfl, ?_⟩
    show TrQ _ _ _ _ _ _ _
    refine TrQ.regionX tblOK (by kernel_rfl) ?_
    refine ⟨_, _, _, fun g => _, fun g => _, does14_fn hC l[k] (by omega), ⟨rfl, rfl, rfl, rfl, trivial⟩, rfl, fun _ => rfl, fun g => ?_⟩
    exact ⟨by omega, (k + 1, (doC 1 40 L l[k] g.1).L), ⟨hk1, g.2⟩, by show l.length - (k + 1) < l.length - k; omega, Le.sub ⟨rfl, rfl, rfl, rfl, rfl, rfl, trivial⟩ ⟨rfl, rfl, rfl, rfl, trivial⟩⟩
  cases hd : dk L nm with
  | none =>
    have hcb := chback_fn hC nm
    rw [show bkC L nm = ([], 140) by unfold bkC; rw [hd]] at hcb
    refine ⟨_, _, _, _, hcb, ⟨rfl, rfl, rfl, rfl, trivial⟩, rfl, ?_⟩
    refine ⟨fun _ => ?_, fun h => absurd (show (!decide ((140 : Int) = 0)) = false from h) (by decide)⟩
    refine ⟨_, _, _, _, alive14_fn, trivial, rfl, ?_⟩
    exact ⟨_, _, _, Le.refl _ _, rfl, rfl, trivial, rfl⟩
  | some d =>
    have hcb := chback_fn hC nm
    rw [show bkC L nm = (d.back, 0) by unfold bkC; rw [hd]] at hcb
    refine ⟨_, _, _, _, hcb, ⟨rfl, rfl, rfl, rfl, trivial⟩, rfl, ?_⟩
    refine ⟨fun h => absurd (show (!decide ((0 : Int) = 0)) = true from h) (by decide), fun _ => ?_⟩
    refine ⟨fun _ => ?_, fun hb => ?_⟩
    · refine ⟨_, _, _, _, alive14_fn, trivial, rfl, ?_⟩
      exact ⟨_, _, _, Le.refl _ _, rfl, rfl, trivial, rfl⟩
    have hb : ¬ d.back = [] := of_decide_eq_false hb
    have ho := (hC.ims d (dk_get hd).1).1
    have htl := ho.tl
    show TrQ _ _ _ _ _ _ _
    refine TrQ.go tblOK (drawOK tblOK) [14,15] (by kernel_rfl) (Le.sub (K' := [(1, vS nm), (5, vP 1001), (9, vS d.back)]) (B' := chB 1 40 L) ⟨rfl, rfl, rfl, trivial⟩ ⟨rfl, rfl, rfl, rfl, trivial⟩) ?_
    refine ⟨_, _, _, _, image_fn _ _ L hC.toChN nm d hd, ⟨rfl, rfl, rfl, rfl, trivial⟩, rfl, ?_⟩
    refine ⟨_, _, _, _, imFn (isize_fn d.im) (hC.toChN.M (dk_get hd).1) rfl rfl rfl rfl, ⟨rfl, trivial⟩, rfl, ?_⟩
    have hia := iall_one hC hd
    have hds := chdisc_fn hC nm 0 ((d.im.t.length : Nat) * ((2 ^ (1 : Int).toNat : Nat) : Int))
    have hz := iIns_zero ho (n := d.im.t.length * 2) (by rw [hia]; exact Nat.le_refl _)
    have hdc : dsC L nm 0 ((d.im.t.length : Nat) * ((2 ^ (1 : Int).toNat : Nat) : Int)) = ⟨0, lim L nm (idsS d.im 0 (d.im.t.length * 2)) none⟩ := by
      rw [shl1]
      unfold dsC
      rw [hd]
      simp only
      rw [if_neg fun h => h hz]
      rfl
    have hC1 : CS 1 40 (dsC L nm 0 ((d.im.t.length : Nat) * ((2 ^ (1 : Int).toNat : Nat) : Int))).L := dsC_cs hC nm _ _
    rw [hdc] at hds hC1
    have hC1 : CS 1 40 (lim L nm (idsS d.im 0 (d.im.t.length * 2)) none) := hC1
    have hd1 : dk (lim L nm (idsS d.im 0 (d.im.t.length * 2)) none) nm = some { d with im := idsS d.im 0 (d.im.t.length * 2), pin := none } := dk_lim_self hd _ _
    have hall : ∀ c, c < d.im.t.length → (idsS d.im 0 (d.im.t.length * 2)).t[c]? = some s0 := fun c hc => by
      have := ids_all ho hc
      rwa [hia] at this
    have htl1 : (idsS d.im 0 (d.im.t.length * 2)).t.length = d.im.t.length := (dsI ho (a := 0) (l := d.im.t.length * 2) (by rw [hia]; show 0 + d.im.t.length * 2 ≤ d.im.t.length * 2; omega) _ (Nat.le_refl _)).like.tl
    generalize idsS d.im 0 (d.im.t.length * 2) = im1 at *
    generalize lim L nm im1 none = L1 at *
    have m : (0 : Int) ≤ ((d.im.t.length : Nat) : Int) ∧ (0 : Int) ≤ 1 ∧ (1 : Int) ≤ 64 := by omega
    have m2 : (-9223372036854775808 : Int) ≤ ((d.im.t.length : Nat) : Int) * ((2 ^ (1 : Int).toNat : Nat) : Int) ∧ ((d.im.t.length : Nat) : Int) * ((2 ^ (1 : Int).toNat : Nat) : Int) ≤ 9223372036854775807 := by rw [shl1]; omega
    refine ⟨m, m2, ?_⟩
    refine ⟨_, _, _, _, hds, ⟨rfl, rfl, rfl, rfl, trivial⟩, rfl, ?_⟩
    obtain ⟨e, he⟩ := hC1.kn _ (dk_get hd1).1 hb
    have he : dk L1 d.back = some e := he
    have htl2 := (hC1.ims e (dk_get he).1).1.tl
    show TrQ _ _ _ _ _ _ _
    refine TrQ.go tblOK (drawOK tblOK) [15] (by kernel_rfl) (Le.sub (K' := [(1, vS nm), (5, vP 1001), (9, vS d.back), (11, vI (d.im.t.length : Nat)), (12, vI 0)]) (B' := chB 1 40 L1) ⟨rfl, rfl, rfl, rfl, rfl, trivial⟩ ⟨rfl, rfl, rfl, rfl, trivial⟩) ?_
    refine ⟨_, _, _, _, image_fn _ _ L1 hC1.toChN d.back e he, ⟨rfl, rfl, rfl, rfl, trivial⟩, rfl, ?_⟩
    refine ⟨_, _, _, _, imFn (isize_fn e.im) (hC1.toChN.M (dk_get he).1) rfl rfl rfl rfl, ⟨rfl, trivial⟩, rfl, ?_⟩
    have em : min ((d.im.t.length : Nat) : Int) ((e.im.t.length : Nat) : Int) = ((min d.im.t.length e.im.t.length : Nat) : Int) := by omega
    have m3 : (0 : Int) ≤ min ((d.im.t.length : Nat) : Int) ((e.im.t.length : Nat) : Int) ∧ (0 : Int) ≤ 1 ∧ (1 : Int) ≤ 64 := by omega
    have m4 : (-9223372036854775808 : Int) ≤ min ((d.im.t.length : Nat) : Int) ((e.im.t.length : Nat) : Int) * ((2 ^ (1 : Int).toNat : Nat) : Int) ∧ min ((d.im.t.length : Nat) : Int) ((e.im.t.length : Nat) : Int) * ((2 ^ (1 : Int).toNat : Nat) : Int) ≤ 9223372036854775807 := by rw [em, shl1]; omega
    refine ⟨m3, m4, ?_⟩
    have e5 : min ((d.im.t.length : Nat) : Int) ((e.im.t.length : Nat) : Int) * ((2 ^ (1 : Int).toNat : Nat) : Int) = ((min d.im.t.length e.im.t.length * 2 : Nat) : Int) := by rw [em, shl1]
    have hia1 := iall_one hC1 hd1
    have hia2 := iall_one hC1 he
    have hr1 := rdC_ok hC1 hd1 (n := min d.im.t.length e.im.t.length * 2) (by rw [hia1]; show _ ≤ im1.t.length * 2; omega)
    have hr2 := rdC_ok hC1 he (n := min d.im.t.length e.im.t.length * 2) (by rw [hia2]; show _ ≤ e.im.t.length * 2; omega)
    have hst := dpt_step hC1 hd1 hb
    have hst : dpt L1 nm = dpt L1 d.back + 1 := hst
    have heq : crdK 1 L1 nm (dpt L1 nm) 0 (min d.im.t.length e.im.t.length * 2) = crdK 1 L1 d.back (dpt L1 d.back) 0 (min d.im.t.length e.im.t.length * 2) := crd_eq (N := min d.im.t.length e.im.t.length) (fun c hc => by
      rw [cseen_hole hd1 (fun hh => hh.2 (by rw [List.getD_eq_getElem?_getD]; show ((im1.t[c]?).getD s0).1 = 0; rw [hall c (by omega)]; rfl)), hst, belY_step hd1]) _ (Nat.le_refl _)
    rw [heq] at hr1
    have hcr1 := chread_fn hC1 nm 0 ((min d.im.t.length e.im.t.length * 2 : Nat) : Int)
    have hcr2 := chread_fn hC1 d.back 0 ((min d.im.t.length e.im.t.length * 2 : Nat) : Int)
    rw [hr1] at hcr1
    rw [hr2] at hcr2
    generalize crdK 1 L1 d.back (dpt L1 d.back) 0 (min d.im.t.length e.im.t.length * 2) = z at *
    show TrQ _ _ _ _ _ _ _
    refine TrQ.go tblOK (drawOK tblOK) [] (by kernel_rfl) (Le.sub (K' := [(1, vS nm), (5, vP 1001), (9, vS d.back), (12, vI 0), (13, vI ((min d.im.t.length e.im.t.length * 2 : Nat) : Int))]) (B' := chB 1 40 L1) ⟨rfl, rfl, rfl, rfl, e5, trivial⟩ ⟨rfl, rfl, rfl, rfl, trivial⟩) ?_
    refine ⟨_, _, _, _, hcr1, ⟨rfl, rfl, rfl, rfl, trivial⟩, rfl, ?_⟩
    refine ⟨_, _, _, _, hcr2, ⟨rfl, rfl, rfl, rfl, trivial⟩, rfl, ?_⟩
    refine ⟨_, _, _, _, alive14_fn, trivial, rfl, ?_⟩
    refine ⟨fun _ => ?_, fun h => absurd h (by decide)⟩
    refine ⟨fun _ => ?_, fun h => absurd h (by decide)⟩
    refine ⟨fun _ => ?_, fun h => absurd (show decide ((0 : Int) = 0) = false from h) (by decide)⟩
    refine ⟨fun _ => ?_, fun h => absurd (show decide ((0 : Int) = 0) = false from h) (by decide)⟩
    exact ⟨_, _, _, Le.refl _ _, rfl, (show decide (z = z) = true from decide_eq_true rfl), trivial, rfl⟩
end Go.Proofs.Ytclklmajbnadcaa
