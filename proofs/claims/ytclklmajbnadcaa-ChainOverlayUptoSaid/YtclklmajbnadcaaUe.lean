/-
  ChainOverlay: an image on another one reads as that, until something is written to it; that stays as it was.
-/
import Derived.Test.YtclklmajbnadcaaUc
set_option linter.unusedVariables false
set_option linter.unusedSimpArgs false
set_option maxRecDepth 10000
namespace Go.Proofs.Ytclklmajbnadcaa
open Go.RowKit Go.Proofs

/-! ### what is written to one is not seen in those that do not stand on it -/
def Lm (L : List Dsk) (t : List UInt8) (L' : List Dsk) : Prop := L' = L ∨ ∃ d im, dk L t = some d ∧ Like d.im im ∧ L' = lim L t im none
structure Off (L : List Dsk) (t n : List UInt8) : Prop where
  ne : n ≠ t
  nb : t ∉ bl L (dpt L n) n
section
variable {bits room : Nat} {L L' : List Dsk} {t n : List UInt8}
theorem wrC_lm (h : CS bits room L) (nm : List UInt8) (a : Int) (bs : List UInt8) : Lm L nm (wrC bits L nm a bs).L := by
  unfold wrC
  cases h0 : dk L nm with
  | none => exact .inl rfl
  | some d =>
    simp only
    split
    · exact .inl rfl
    · rename_i h1
      split
      · exact .inl rfl
      · rename_i h2
        have h2 : iIns d.im a ((bs.length / 16 : Nat) : Int) = 0 := Decidable.byContradiction h2
        have e := (iIns_pos h2).1
        rw [e] at h2
        exact .inr ⟨d, _, h0, iwS_like (h.ims d (dk_get h0).1).1 (by omega) h2 _, rfl⟩
theorem zrC_lm (h : CS bits room L) (nm : List UInt8) (a l : Int) : Lm L nm (zrC bits L nm a l).L := by
  unfold zrC
  cases h0 : dk L nm with
  | none => exact .inl rfl
  | some d =>
    simp only
    split
    · exact .inl rfl
    · rename_i h2
      have h2 : iIns d.im a l = 0 := Decidable.byContradiction h2
      obtain ⟨e1, e2⟩ := iIns_pos h2
      rw [e1, e2] at h2
      exact .inr ⟨d, _, h0, izS_like (h.ims d (dk_get h0).1).1 h2 _, rfl⟩
theorem dsC_lm (h : CS bits room L) (nm : List UInt8) (a l : Int) : Lm L nm (dsC L nm a l).L := by
  unfold dsC
  cases h0 : dk L nm with
  | none => exact .inl rfl
  | some d =>
    simp only
    split
    · exact .inl rfl
    · rename_i h2
      have h2 : iIns d.im a l = 0 := Decidable.byContradiction h2
      obtain ⟨e1, e2⟩ := iIns_pos h2
      rw [e1, e2] at h2
      exact .inr ⟨d, _, h0, (dsI (h.ims d (dk_get h0).1).1 (iIns_all h2) _ (Nat.le_refl _)).like, rfl⟩
theorem Lm.cs (h : CS bits room L) (hl : Lm L t L') : CS bits room L' := by
  rcases hl with rfl | ⟨d, im, h0, hs, rfl⟩
  · exact h
  · exact h.lim h0 hs
theorem dpt_lim (h : CS bits room L) (t : List UInt8) (im : ImS) (pin : Option (Nat → Nat)) (n : List UInt8) : dpt (lim L t im pin) n = dpt L n := by
  have hd := h.dep n
  exact dpt_of (dn_lim t im pin hd.1) (by omega)
theorem Lm.dpt (h : CS bits room L) (hl : Lm L t L') (n : List UInt8) : Go.Proofs.Ytclklmajbnadcaa.dpt L' n = Go.Proofs.Ytclklmajbnadcaa.dpt L n := by
  rcases hl with rfl | ⟨d, im, h0, hs, rfl⟩
  · rfl
  · exact dpt_lim h t im none n
theorem Lm.off (h : CS bits room L) (hl : Lm L t L') (o : Off L t n) : Off L' t n ∧ dk L' n = dk L n ∧ ∀ c, cseen bits L' n (Go.Proofs.Ytclklmajbnadcaa.dpt L' n) c = cseen bits L n (Go.Proofs.Ytclklmajbnadcaa.dpt L n) c := by
  have hdp := hl.dpt h n
  rcases hl with rfl | ⟨d, im, h0, hs, rfl⟩
  · exact ⟨o, rfl, fun _ => rfl⟩
  · refine ⟨⟨o.ne, by rw [hdp, bl_lim]; exact o.nb⟩, dk_lim_ne o.ne im none, fun c => ?_⟩
    rw [hdp]
    unfold cseen
    rw [bl_lim, seenL_lim]
    intro hm
    rcases List.mem_cons.1 hm with e | hm
    · exact o.ne e.symm
    · exact o.nb hm
theorem crdK_all {L L' : List Dsk} {nm nm' : List UInt8} {kk kk' : Nat} (h : ∀ c, cseen bits L nm kk c = cseen bits L' nm' kk' c) (a : Nat) : ∀ n, crdK bits L nm kk a n = crdK bits L' nm' kk' a n
  | 0 => rfl
  | n + 1 => by
    show crdK bits L nm kk a n ++ crdP bits L nm kk (a + n) = crdK bits L' nm' kk' a n ++ crdP bits L' nm' kk' (a + n)
    rw [crdK_all h a n]
    unfold crdP
    rw [h]
theorem Lm.read (h : CS bits room L) (hl : Lm L t L') (o : Off L t n) (a l : Int) : rdC bits L' n a l = rdC bits L n a l := by
  obtain ⟨_, h1, h2⟩ := hl.off h o
  unfold rdC
  rw [h1]
  cases dk L n with
  | none => rfl
  | some d =>
    simp only
    rw [crdK_all h2]
/-- Nobody stands on what stands on him. -/
theorem off_of (h : CS bits room L) {d : Dsk} (hd : dk L t = some d) (hb : d.back ≠ []) : Off L t d.back := by
  have h1 := (h.dep d.back).1
  have h2 : Dn L t (Go.Proofs.Ytclklmajbnadcaa.dpt L d.back + 1) := .step hd hb h1
  refine ⟨fun e => ?_, fun hm => ?_⟩
  · rw [e] at h1 h2
    have := dn_det h1 h2
    omega
  · obtain ⟨j, hj, h3⟩ := bl_mem h1 t hm
    have := dn_det h3 h2
    omega
end
theorem adC_ok {bits room : Nat} {L : List Dsk} {nm back : List UInt8} {size : Int} {p : Nat × Nat} (he : (adC bits room L nm size back p).e = 0) :
    adC bits room L nm size back p = ⟨0, adD L nm back p.1 p.2 (iNew bits size.toNat room)⟩ ∧ dk L nm = none ∧ (decide (back = []) || (dk L back).isSome) = true ∧ newMay bits size room = true := by
  unfold adC at he ⊢
  split at he
  · exact absurd he (show ¬ (1 : Int) = 0 by decide)
  · rename_i h1
    split at he
    · exact absurd he (show ¬ (143 : Int) = 0 by decide)
    · rename_i h2
      split at he
      · exact absurd he (show ¬ (140 : Int) = 0 by decide)
      · rename_i h3
        split at he
        · exact absurd he (show ¬ (142 : Int) = 0 by decide)
        · rename_i h4
          rw [if_neg h1, if_neg h2, if_neg h3, if_neg h4]
          refine ⟨rfl, ?_, by rw [Bool.not_eq_false] at h3; exact h3, ?_⟩
          · cases e : dk L nm with
            | none => rfl
            | some d => exact absurd (.inl (by rw [e]; rfl)) h2
          · rw [Bool.not_eq_false, Bool.and_eq_true] at h1
            exact h1.2
@[reducible] def ueK (size : Int) (l : List Cop) (k : Nat) : KL := [(0, vL uC l), (1, vI size), (5, vP 5), (7, vP 1001), (59, vL uC l), (60, vI (l.length : Nat)), (61, vI (k : Nat))]
@[reducible] def ueB (L : List Dsk) (o : Cop) : BL := chB 1 60 L ++ [(5, .cells (copL o))]
@[reducible] def ueK2 (am : Nat) (size : Int) : KL := [(1, vI size), (5, vP 5), (7, vP 1001), (11, vAd am)]
@[reducible] def ueK3 (am : Nat) (n : Int) : KL := [(5, vP 5), (7, vP 1001), (11, vAd am), (12, vI n)]
@[reducible] def ueK4 (am : Nat) (z : List UInt8) : KL := [(5, vP 5), (7, vP 1001), (11, vAd am), (13, vL .u8 z), (14, vI 0), (15, vL .u8 z), (16, vI 0)]
@[reducible] def ueK5 (am : Nat) (z w : List UInt8) : KL := [(5, vP 5), (7, vP 1001), (11, vAd am), (13, vL .u8 z), (14, vI 0), (15, vL .u8 z), (16, vI 0), (17, vL .u8 w)]
set_option maxHeartbeats 2000000 in
theorem chainOverlay_fn (l : List Cop) (size : Int) (o : Cop) (hl : l.length ≤ 1073741824) (ht : (l.map cTot).sum ≤ 1073741824) (hto : cTot o ≤ 1073741824) : Fn Try.prog 3 [vL uC l, vI size, copV o] [] [] (vB true) [] := by
  have hfo := few14_fn [o] (show (1 : Nat) ≤ 1073741824 by decide) (by simpa using hto)
  refine Fn.of tblOK [10,12,13,15,16,18,19] _ _ _ _ _ Try.func3 rfl rfl (by kernel_rfl) (by kernel_rfl) rfl (drawOK tblOK) rfl ?_
  refine ⟨rfl, ?_⟩
  refine ⟨_, _, _, _, chnew_ok 1 60 (by decide) (by decide), trivial, rfl, ?_⟩
  refine ⟨fun h => absurd h (by decide), fun _ => ?_⟩
  refine ⟨_, _, _, _, few14_fn l hl ht, trivial, rfl, ?_⟩
  refine ⟨fun _ => ?_, fun hf => ?_⟩
  · refine ⟨fun _ => ?_, fun h => absurd h (by decide)⟩
    refine ⟨_, _, _, _, alive14_fn, trivial, rfl, ?_⟩
    exact ⟨_, _, _, Le.refl _ _, rfl, rfl, trivial, rfl⟩
  refine ⟨_, _, _, _, hfo, trivial, rfl, ?_⟩
  refine ⟨fun _ => ?_, fun hf2 => ?_⟩
  · refine ⟨fun _ => ?_, fun h => absurd h (by decide)⟩
    refine ⟨_, _, _, _, alive14_fn, trivial, rfl, ?_⟩
    exact ⟨_, _, _, Le.refl _ _, rfl, rfl, trivial, rfl⟩
  refine ⟨fun _ => ?_, fun hs1 => ?_⟩
  · refine ⟨fun _ => ?_, fun h => absurd h (by decide)⟩
    refine ⟨_, _, _, _, alive14_fn, trivial, rfl, ?_⟩
    exact ⟨_, _, _, Le.refl _ _, rfl, rfl, trivial, rfl⟩
  refine ⟨fun _ => ?_, fun hs2 => ?_⟩
  · refine ⟨fun _ => ?_, fun h => absurd h (by decide)⟩
    refine ⟨_, _, _, _, alive14_fn, trivial, rfl, ?_⟩
    exact ⟨_, _, _, Le.refl _ _, rfl, rfl, trivial, rfl⟩
  have hs1 : ¬ size < 0 := of_decide_eq_false hs1
  have hs2 : ¬ (12 : Int) < size := of_decide_eq_false hs2
  have hfew : fewO 40 l = true := by
    have hf : (!fewO 40 l) = false := hf
    simpa using hf
  obtain ⟨hll, -, hob⟩ := fewO_get hfew
  have hto6 : cTot o ≤ 6000 := by
    have hf2 : (!fewO 40 [o]) = false := hf2
    exact ((fewO_get (m := 40) (l := [o]) (by simpa using hf2)).2.2 o (List.mem_cons_self ..)).1
  have htt : cTot o = (qB (cQ o)).length + (cNm o).length + (cOt o).length := rfl
  show TrQ _ _ _ _ _ _ _
  refine TrQ.loop tblOK (drawOK tblOK) [7,10,12,13,15,16,18,19] (by kernel_rfl) (X := Nat × List Dsk) (fun x => ueK size l x.1) (fun x => chB 1 60 x.2 ++ [(5, .cells (copL o))]) (fun x => x.1 ≤ l.length ∧ CS 1 60 x.2) (fun x => l.length - x.1) (0, []) ⟨Nat.zero_le _, CS.nil (by decide) (by decide)⟩ ?_ ?_
  · exact Le.sub ⟨rfl, rfl, rfl, rfl, rfl, rfl, rfl, trivial⟩ ⟨rfl, rfl, rfl, rfl, rfl, trivial⟩
  rintro ⟨k, L⟩ ⟨hk, hC⟩
  have hk : k ≤ l.length := hk
  have hC : CS 1 60 L := hC
  refine ⟨fun hc => ?_, fun _ => ?_⟩
  · have hc : decide ((k : Int) < ((l.length : Nat) : Int)) = true := hc
    have hk1 : k < l.length := by have := of_decide_eq_true hc; omega
    have hO := (hob _ (List.getElem_mem hk1)).1
    refine ⟨by omega, l[k], lgAt (n := k) hk1, ?_⟩
    refine ⟨rfl, ?_⟩
    show TrQ _ _ _ _ _ _ _
    refine TrQ.regionX tblOK (by kernel_rfl) ?_
    refine ⟨_, _, _, fun g => _, fun g => _, does14_fn hC l[k] (by omega), ⟨rfl, rfl, rfl, rfl, trivial⟩, rfl, fun _ => rfl, fun g => ?_⟩
    exact ⟨by omega, (k + 1, (doC 1 60 L l[k] g.1).L), ⟨hk1, g.2⟩, by show l.length - (k + 1) < l.length - k; omega, Le.sub ⟨rfl, rfl, rfl, rfl, rfl, rfl, rfl, trivial⟩ ⟨rfl, rfl, rfl, rfl, rfl, trivial⟩⟩
  cases hd : dk L (cNm o) with
  | none =>
    refine ⟨_, _, _, _, image_no _ _ L (cNm o) hd, ⟨rfl, rfl, rfl, rfl, trivial⟩, rfl, ?_⟩
    show TrQ _ _ _ _ _ _ _
    refine TrQ.go tblOK (drawOK tblOK) [] (by kernel_rfl) (Le.refl _ _) ?_
    refine ⟨_, _, _, _, alive14_fn, trivial, rfl, ?_⟩
    exact ⟨_, _, _, Le.refl _ _, rfl, rfl, trivial, rfl⟩
  | some d =>
    refine ⟨_, _, _, _, image_fn _ _ L hC.toChN (cNm o) d hd, ⟨rfl, rfl, rfl, rfl, trivial⟩, rfl, ?_⟩
    show TrQ _ _ _ _ _ _ _
    refine TrQ.le (Le.sub (K' := ueK2 d.am size) (B' := ueB L o) ⟨rfl, rfl, rfl, rfl, trivial⟩ ⟨rfl, rfl, rfl, rfl, rfl, trivial⟩) ?_
    refine TrQ.regionX tblOK (by kernel_rfl) ?_
    refine ⟨fun _ _ => ?_, fun h => by cases h⟩
    refine ⟨_, _, _, fun g => _, fun g => _, chadd_fn hC [116, 111, 112] size (cNm o) (by decide), ⟨rfl, rfl, rfl, rfl, trivial⟩, rfl, fun _ => rfl, fun g => ?_⟩
    refine ⟨fun _ => ?_, fun hA => ?_⟩
    · refine ⟨_, _, _, _, alive14_fn, trivial, rfl, ?_⟩
      exact ⟨_, _, _, Le.refl _ _, rfl, rfl, trivial, rfl⟩
    have hA : (!decide ((adC 1 60 L [116, 111, 112] size (cNm o) g.1).e = 0)) = false := hA
    have hA : (adC 1 60 L [116, 111, 112] size (cNm o) g.1).e = 0 := by simpa using hA
    obtain ⟨hA1, hA2, hA3, hA4⟩ := adC_ok hA
    have hbk : cNm o ≠ [] := known_ne hC ⟨d, hd⟩
    have hL2 : (adC 1 60 L [116, 111, 112] size (cNm o) g.1).L = adD L [116, 111, 112] (cNm o) g.1.1 g.1.2 (iNew 1 size.toNat 60) := by rw [hA1]
    have hC2 := g.2
    rw [hL2] at hC2
    have hdo : dk (adD L [116, 111, 112] (cNm o) g.1.1 g.1.2 (iNew 1 size.toNat 60)) (cNm o) = some d := by rw [dk_add, hd]; rfl
    have hdt : dk (adD L [116, 111, 112] (cNm o) g.1.1 g.1.2 (iNew 1 size.toNat 60)) [116, 111, 112] = some ⟨[116, 111, 112], cNm o, g.1.1, g.1.2, iNew 1 size.toNat 60, none⟩ := by rw [dk_add, hA2, if_pos rfl]; rfl
    show TrQ _ _ _ _ _ _ _
    refine TrQ.le (Le.sub (K' := ueK2 d.am size) (B' := ueB (adD L [116, 111, 112] (cNm o) g.1.1 g.1.2 (iNew 1 size.toNat 60)) o) ⟨rfl, rfl, rfl, rfl, trivial⟩ ⟨rfl, congrArg (fun l => some (Ch.map .str .adr (chE l))) hL2, congrArg (fun l => some (Ch.obj (.pool (chD l)))) hL2, congrArg (fun l => some (Ch.obj (.pool (chM l)))) hL2, rfl, trivial⟩) ?_
    generalize adD L [116, 111, 112] (cNm o) g.1.1 g.1.2 (iNew 1 size.toNat 60) = L2 at *
    obtain ⟨sz, rfl⟩ : ∃ sz : Nat, size = (sz : Int) := ⟨size.toNat, by omega⟩
    have ho := (hC2.ims d (dk_get hdo).1).1
    have htl := ho.tl
    have hia1 := iall_one hC2 hdo
    have hia2 := iall_one hC2 hdt
    have hia2 : iall (iNew 1 ((sz : Int).toNat) 60) = sz * 2 := by rw [hia2]; show (List.replicate sz s0).length * 2 = _; rw [List.length_replicate]
    have em : min (sz : Int) ((d.im.t.length : Nat) : Int) = ((min sz d.im.t.length : Nat) : Int) := by omega
    have e5 : min (sz : Int) ((d.im.t.length : Nat) : Int) * ((2 ^ (1 : Int).toNat : Nat) : Int) = ((min sz d.im.t.length * 2 : Nat) : Int) := by rw [em, shl1]
    have m3 : (0 : Int) ≤ min (sz : Int) ((d.im.t.length : Nat) : Int) ∧ (0 : Int) ≤ 1 ∧ (1 : Int) ≤ 64 := by omega
    have m4 : (-9223372036854775808 : Int) ≤ min (sz : Int) ((d.im.t.length : Nat) : Int) * ((2 ^ (1 : Int).toNat : Nat) : Int) ∧ min (sz : Int) ((d.im.t.length : Nat) : Int) * ((2 ^ (1 : Int).toNat : Nat) : Int) ≤ 9223372036854775807 := by rw [e5]; omega
    have m5 : (0 : Int) ≤ ((d.im.t.length : Nat) : Int) ∧ (0 : Int) ≤ 1 ∧ (1 : Int) ≤ 64 := by omega
    have m6 : (-9223372036854775808 : Int) ≤ ((d.im.t.length : Nat) : Int) * ((2 ^ (1 : Int).toNat : Nat) : Int) ∧ ((d.im.t.length : Nat) : Int) * ((2 ^ (1 : Int).toNat : Nat) : Int) ≤ 9223372036854775807 := by rw [shl1]; omega
    have hr1 := rdC_ok hC2 hdo (n := min sz d.im.t.length * 2) (by rw [hia1]; show _ ≤ d.im.t.length * 2; omega)
    have hr2 := rdC_ok hC2 hdt (n := min sz d.im.t.length * 2) (by show _ ≤ iall (iNew 1 ((sz : Int).toNat) 60); rw [hia2]; omega)
    have hr3 := rdC_ok hC2 hdo (n := d.im.t.length * 2) (by rw [hia1]; exact Nat.le_refl _)
    have hst := dpt_step hC2 hdt hbk
    have hst : dpt L2 [116, 111, 112] = dpt L2 (cNm o) + 1 := hst
    have heq : crdK 1 L2 [116, 111, 112] (dpt L2 [116, 111, 112]) 0 (min sz d.im.t.length * 2) = crdK 1 L2 (cNm o) (dpt L2 (cNm o)) 0 (min sz d.im.t.length * 2) := crd_eq (N := min sz d.im.t.length) (fun c hc => by
      rw [cseen_hole hdt (fun hh => hh.2 (by show ((List.replicate sz s0).getD c s0).1 = 0; rw [List.getD_eq_getElem?_getD, List.getElem?_replicate]; split <;> rfl)), hst, belY_step hdt]) _ (Nat.le_refl _)
    rw [heq] at hr2
    have hoff := off_of hC2 hdt hbk
    have hoff : Off L2 [116, 111, 112] (cNm o) := hoff
    have hcr1 := chread_fn hC2 (cNm o) 0 ((min sz d.im.t.length * 2 : Nat) : Int)
    have hcr2 := chread_fn hC2 [116, 111, 112] 0 ((min sz d.im.t.length * 2 : Nat) : Int)
    have hcr3 := chread_fn hC2 (cNm o) 0 (((d.im.t.length : Nat) : Int) * ((2 ^ (1 : Int).toNat : Nat) : Int))
    rw [← shl1] at hr3
    rw [hr1] at hcr1
    rw [hr2] at hcr2
    rw [hr3] at hcr3
    generalize crdK 1 L2 (cNm o) (dpt L2 (cNm o)) 0 (min sz d.im.t.length * 2) = z at *
    generalize crdK 1 L2 (cNm o) (dpt L2 (cNm o)) 0 (d.im.t.length * 2) = w at *
    have hwr := chwrite_fn hC2 [116, 111, 112] (qA (cQ o)) (qB (cQ o)) (by omega)
    have hl3 := wrC_lm hC2 [116, 111, 112] (qA (cQ o)) (qB (cQ o))
    generalize wrC 1 L2 [116, 111, 112] (qA (cQ o)) (qB (cQ o)) = r3 at *
    obtain ⟨r3, L3⟩ := r3
    have hl3 : Lm L2 [116, 111, 112] L3 := hl3
    have hC3 := hl3.cs hC2
    have hzr := chzero_fn hC3 [116, 111, 112] (qL (cQ o)) 1
    have hl4 := zrC_lm hC3 [116, 111, 112] (qL (cQ o)) 1
    generalize zrC 1 L3 [116, 111, 112] (qL (cQ o)) 1 = r4 at *
    obtain ⟨r4, L4⟩ := r4
    have hl4 : Lm L3 [116, 111, 112] L4 := hl4
    have hC4 := hl4.cs hC3
    obtain ⟨hoff3, hd3, _⟩ := hl3.off hC2 hoff
    obtain ⟨hoff4, hd4, _⟩ := hl4.off hC3 hoff3
    have hd4 : dk L4 (cNm o) = some d := hd4.trans (hd3.trans hdo)
    have hcr4 := chread_fn hC4 (cNm o) 0 (((d.im.t.length : Nat) : Int) * ((2 ^ (1 : Int).toNat : Nat) : Int))
    rw [hl4.read hC3 hoff3, hl3.read hC2 hoff, hr3] at hcr4
    refine TrQ.go tblOK (drawOK tblOK) [13,15,16,18,19] (by kernel_rfl) (Le.refl _ _) ?_
    refine ⟨_, _, _, _, imFn (isize_fn d.im) (hC2.toChN.M (dk_get hdo).1) rfl rfl rfl rfl, ⟨rfl, trivial⟩, rfl, ?_⟩
    refine ⟨m3, m4, ?_⟩
    show TrQ _ _ _ _ _ _ _
    refine TrQ.go tblOK (drawOK tblOK) [15,16,18,19] (by kernel_rfl) (Le.sub (K' := ueK3 d.am ((min sz d.im.t.length * 2 : Nat) : Int)) (B' := ueB L2 o) ⟨rfl, rfl, rfl, e5, trivial⟩ ⟨rfl, rfl, rfl, rfl, rfl, trivial⟩) ?_
    refine ⟨_, _, _, _, hcr1, ⟨rfl, rfl, rfl, rfl, trivial⟩, rfl, ?_⟩
    refine ⟨_, _, _, _, hcr2, ⟨rfl, rfl, rfl, rfl, trivial⟩, rfl, ?_⟩
    show TrQ _ _ _ _ _ _ _
    refine TrQ.go tblOK (drawOK tblOK) [16,18,19] (by kernel_rfl) (Le.sub (K' := ueK4 d.am z) (B' := ueB L2 o) ⟨rfl, rfl, rfl, rfl, rfl, rfl, rfl, trivial⟩ ⟨rfl, rfl, rfl, rfl, rfl, trivial⟩) ?_
    refine ⟨_, _, _, _, imFn (isize_fn d.im) (hC2.toChN.M (dk_get hdo).1) rfl rfl rfl rfl, ⟨rfl, trivial⟩, rfl, ?_⟩
    refine ⟨m5, m6, ?_⟩
    refine ⟨_, _, _, _, hcr3, ⟨rfl, rfl, rfl, rfl, trivial⟩, rfl, ?_⟩
    refine ⟨rfl, ?_⟩
    show TrQ _ _ _ _ _ _ _
    refine TrQ.go tblOK (drawOK tblOK) [18,19] (by kernel_rfl) (Le.sub (K' := ueK5 d.am z w) (B' := ueB L2 o) ⟨rfl, rfl, rfl, rfl, rfl, rfl, rfl, rfl, trivial⟩ ⟨rfl, rfl, rfl, rfl, rfl, trivial⟩) ?_
    refine ⟨_, _, _, _, hwr, ⟨rfl, rfl, rfl, rfl, trivial⟩, rfl, ?_⟩
    refine ⟨_, _, _, _, hzr, ⟨rfl, rfl, rfl, rfl, trivial⟩, rfl, ?_⟩
    show TrQ _ _ _ _ _ _ _
    refine TrQ.go tblOK (drawOK tblOK) [19] (by kernel_rfl) (Le.sub (K' := ueK5 d.am z w) (B' := ueB L4 o) ⟨rfl, rfl, rfl, rfl, rfl, rfl, rfl, rfl, trivial⟩ ⟨rfl, rfl, rfl, rfl, rfl, trivial⟩) ?_
    refine ⟨_, _, _, _, imFn (isize_fn d.im) (hC4.toChN.M (dk_get hd4).1) rfl rfl rfl rfl, ⟨rfl, trivial⟩, rfl, ?_⟩
    refine ⟨m5, m6, ?_⟩
    refine ⟨_, _, _, _, hcr4, ⟨rfl, rfl, rfl, rfl, trivial⟩, rfl, ?_⟩
    refine ⟨rfl, ?_⟩
    show TrQ _ _ _ _ _ _ _
    refine TrQ.go tblOK (drawOK tblOK) [] (by kernel_rfl) (Le.sub (K' := [(13, vL .u8 z), (14, vI 0), (15, vL .u8 z), (16, vI 0), (17, vL .u8 w), (19, vL .u8 w), (20, vI 0)]) (B' := []) ⟨rfl, rfl, rfl, rfl, rfl, rfl, rfl, trivial⟩ trivial) ?_
    refine ⟨_, _, _, _, alive14_fn, trivial, rfl, ?_⟩
    refine ⟨fun _ => ?_, fun h => absurd h (by decide)⟩
    refine ⟨fun _ => ?_, fun h => absurd h (by decide)⟩
    refine ⟨fun _ => ?_, fun h => absurd h (by decide)⟩
    refine ⟨fun _ => ?_, fun h => absurd (show decide (z = z) = false from h) (by simp)⟩
    refine ⟨fun _ => ?_, fun h => absurd h (by decide)⟩
    exact ⟨_, _, _, Le.refl _ _, rfl, (show decide (w = w) = true from decide_eq_true rfl), trivial, rfl⟩
end Go.Proofs.Ytclklmajbnadcaa
