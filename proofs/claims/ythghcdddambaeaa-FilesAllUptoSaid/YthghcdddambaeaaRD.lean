/-
  FilesAll: the files stand as the document's.
-/
import Derived.Test.YthghcdddambaeaaRC
set_option linter.unusedVariables false
set_option linter.unusedSimpArgs false
set_option maxRecDepth 10000
namespace Go.Proofs.Ythghcdddambaeaa
open Go.RowKit Go.Proofs
theorem RS.looseLen {r : RSt} {m : StM} (h : RS r m) : (m.loose.length : Int) = ((rL r).length : Nat) - rSafe r := by
  have h1 := congrArg List.length h.loose
  rw [List.length_drop, List.length_map] at h1
  have := h.s0
  have := h.s1
  omega
theorem whole_eq {r : RSt} {m : StM} (h : RS r m) (ho : StOK m) : readO r 0 (rN r) = (wholeB m, 0) := by
  have h0 := ho.n0
  rw [readO_eq h ho, h.n, if_neg (by omega)]
  have hi : m.insideB 0 m.n = true := by simp [StM.insideB]
  rw [hi]
  rfl
@[reducible] def sdK (ns : List Bs) (i : Nat) : KL := [(0, vP 1001), (3, vP 3), (22, vL .str ns), (23, vI (ns.length : Nat)), (24, vI (i : Nat))]
@[reducible] def sdB (room : Int) (es : FMap) (L : SPool) (l : List RF) : BL := flS 1001 1002 1003 room es L ++ [(3, .cells (rfL room l))]
set_option maxHeartbeats 1000000 in
theorem stands_fn (room : Int) (es : FMap) (L : SPool) (l : List RF) {W : Nat} (h : FR l es L W) (hF : FOK es L W) (hW : W ≤ 536870912) : Fn Try.prog 49 [vP 1001, rfV room l] (flS 1001 1002 1003 room es L) [] (vB true) (flS 1001 1002 1003 room es L) := by
  have hll := h.len hF
  have hfew := hF.nm.few
  have hne : ∀ n ∈ namesR l, n ≠ [] := fun n hn e => by
    have := hF.nm.ok n ((h.names hF).mem_iff.1 hn)
    rw [e] at this
    cases this
  have hns := h.sort hF
  have hkl : (keysS es).length ≤ 16 := by rw [keysS_length]; exact hfew
  refine Fn.of tblOK [] _ _ _ _ _ Try.func49 rfl rfl (by kernel_rfl) (by kernel_rfl) rfl (drawOK tblOK) rfl ?_
  refine ⟨rfl, ?_⟩
  refine ⟨_, _, _, _, rnames_fn room l (by omega) hne h.nd, trivial, rfl, ?_⟩
  rw [hns]
  refine ⟨_, _, _, _, fnames_spec room es hF.nm, ⟨rfl, rfl, trivial⟩, rfl, ?_⟩
  refine ⟨_, _, _, _, sameT_spec (keysS es) (keysS es) (by omega), trivial, rfl, ?_⟩
  rw [decide_eq_true (rfl : keysS es = keysS es)]
  refine ⟨fun h => absurd h (by decide), fun _ => ?_⟩
  show TrQ _ _ _ _ _ _ _
  refine TrQ.loop tblOK (drawOK tblOK) [] (by kernel_rfl) (X := Nat) (sdK (keysS es)) (fun _ => sdB room es L l) (fun i => i ≤ (keysS es).length) (fun i => (keysS es).length - i) 0 (Nat.zero_le _) ?_ ?_
  · exact Le.sub ⟨rfl, rfl, rfl, rfl, rfl, trivial⟩ ⟨rfl, rfl, rfl, rfl, trivial⟩
  intro i hi
  refine ⟨fun hc => ?_, fun hc => ?_⟩
  · have hc : decide ((i : Int) < ((keysS es).length : Int)) = true := hc
    have hi1 : i < (keysS es).length := by simpa using hc
    obtain ⟨a, ha⟩ := hF.pl.fget (mem_keysS.1 (List.getElem_mem hi1))
    obtain ⟨r, m, hg, hm, hr, hro, hmo⟩ := h.got hF.pl ha
    have hix : ¬ ixI l (keysS es)[i] < 0 := fun hlt => by
      rw [ixI_neg hlt] at hg
      cases hg
    obtain ⟨k, hk, ek, eg⟩ := ixI_pos hix
    rw [hg] at eg
    injection eg with eg
    subst eg
    have hn0 : 0 ≤ rN (fS l[k]) := by rw [hr.n]; exact hmo.n0
    have hn1 : rN (fS l[k]) ≤ 4096 := by rw [hr.n]; exact hmo.n1
    have hlk := hro.len
    have hrd := rread_fn (fS l[k]) 0 (rN (fS l[k])) (by omega) hn0 hn1 hro.wf
    rw [whole_eq hr hmo] at hrd
    refine ⟨by omega, (keysS es)[i], lgAt (n := i) hi1, ?_⟩
    refine ⟨_, _, _, _, fopen_ok room es (keysS es)[i] a ha, ⟨rfl, rfl, trivial⟩, rfl, ?_⟩
    refine ⟨fun h => absurd h (by decide), fun _ => ?_⟩
    refine ⟨fun _ _ => ?_, fun h => by cases h⟩
    have hfk := h.frk hF
    refine ⟨_, _, _, _, rfind_fn room l (keysS es)[i] (by omega), trivial, rfl, ?_⟩
    refine ⟨by omega, l[k], (by rw [show (ixI l (keysS es)[i]).toNat = k by omega]; exact lgAt (n := k) hk), ?_⟩
    refine ⟨rfl, rfl, ?_⟩
    refine ⟨_, _, _, _, poolLen hm, ⟨rfl, trivial⟩, rfl, ?_⟩
    refine ⟨_, _, _, _, poolRead hm hmo, ⟨rfl, trivial⟩, rfl, ?_⟩
    refine ⟨_, _, _, _, hrd, trivial, rfl, ?_⟩
    refine ⟨_, _, _, _, poolLen hm, ⟨rfl, trivial⟩, rfl, ?_⟩
    refine ⟨fun c => ?_, fun _ => ?_⟩
    · exact absurd hr.n.symm (by simpa using c)
    refine ⟨fun c => absurd c (by simp), fun _ => ?_⟩
    refine ⟨fun c => absurd c (by simp), fun _ => ?_⟩
    refine ⟨_, _, _, _, poolLoose hm, ⟨rfl, trivial⟩, rfl, ?_⟩
    have hlo := hr.looseLen
    have hs0 := hr.s0
    have hs1 := hr.s1
    have q : -9223372036854775808 ≤ ((rL (fS l[k])).length : Int) - rSafe (fS l[k]) ∧ ((rL (fS l[k])).length : Int) - rSafe (fS l[k]) ≤ 9223372036854775807 := by omega
    refine ⟨q, ?_⟩
    refine ⟨rfl, fun c => ?_, fun _ => ?_⟩
    · have c : (!decide ((m.loose.length : Int) = ((rL (fS l[k])).length : Nat) - rSafe (fS l[k]))) = true := c
      rw [decide_eq_true hlo] at c
      cases c
    exact ⟨by omega, i + 1, by omega, by omega, Le.sub ⟨rfl, rfl, rfl, rfl, rfl, trivial⟩ ⟨rfl, rfl, rfl, rfl, trivial⟩⟩
  · exact ⟨_, _, _, Le.refl _ _, rfl, rfl, ⟨rfl, rfl, rfl, trivial⟩, rfl⟩
@[reducible] def faK (room : Int) (l : List Op4) (k : Nat) : KL := [(0, vI room), (1, vL uO4 l), (5, vP 1001), (7, vP 7), (53, vL uO4 l), (54, vI (l.length : Nat)), (55, vI (k : Nat))]
@[reducible] def faB (room : Int) (es : FMap) (L : SPool) (r : List RF) : BL := flS 1001 1002 1003 room es L ++ [(7, .cells (rfL room r))]
set_option maxHeartbeats 1000000 in
theorem fall_spec (room : Int) (l : List Op4) (h : ScrOK l 1048576) : Fn Try.prog 12 [vI room, vL uO4 l] [] [] (vB true) [] := by
  refine Fn.of tblOK [] _ _ _ _ _ Try.func12 rfl rfl (by kernel_rfl) (by kernel_rfl) rfl (drawOK tblOK) rfl ?_
  by_cases hr : room < 0
  · refine ⟨_, _, _, _, fnew_bad room hr, trivial, rfl, ?_⟩
    refine ⟨fun _ => ?_, fun c => absurd hr (of_decide_eq_false c)⟩
    refine ⟨_, _, _, _, alive4_spec, trivial, rfl, ?_⟩
    refine ⟨fun _ => ?_, fun h => absurd h (by decide)⟩
    refine ⟨fun _ => ?_, fun h => absurd h (by decide)⟩
    exact ⟨_, _, _, Le.refl _ _, rfl, rfl, trivial, rfl⟩
  refine ⟨_, _, _, _, fnew_ok room (by omega), trivial, rfl, ?_⟩
  refine ⟨fun c => absurd (of_decide_eq_true c) hr, fun _ => ?_⟩
  refine ⟨fun h => absurd h (by decide), fun _ => ?_⟩
  refine ⟨_, _, _, _, few4_of h (by decide), trivial, rfl, ?_⟩
  refine ⟨fun _ => ?_, fun _ => ?_⟩
  · refine ⟨fun _ => ?_, fun h => absurd h (by decide)⟩
    refine ⟨_, _, _, _, alive4_spec, trivial, rfl, ?_⟩
    exact ⟨_, _, _, Le.refl _ _, rfl, rfl, trivial, rfl⟩
  refine ⟨rfl, ?_⟩
  show TrQ _ _ _ _ _ _ _
  refine TrQ.le ((Le.nilc 7 1 2009 168 uF rfl rfl rfl).trans ((Le.frz 2009 rfl).trans (Le.emp 1003 rfl))) ?_
  refine TrQ.loop tblOK (drawOK tblOK) [12] (by kernel_rfl) (X := Nat × FMap × SPool × List RF) (fun x => faK room l x.1) (fun x => faB room x.2.1 x.2.2.1 x.2.2.2) (fun x => x.1 ≤ l.length ∧ FOK x.2.1 x.2.2.1 (wrt l x.1) ∧ FR x.2.2.2 x.2.1 x.2.2.1 (wrt l x.1)) (fun x => l.length - x.1) (0, [], [], []) ⟨Nat.zero_le _, FOK.nil _, FR.nil _⟩ ?_ ?_
  · exact Le.sub ⟨rfl, rfl, rfl, rfl, rfl, rfl, rfl, trivial⟩ ⟨rfl, rfl, rfl, rfl, trivial⟩
  rintro ⟨k, es, L, r⟩ ⟨hk, hF, hR⟩
  have hk : k ≤ l.length := hk
  have hF : FOK es L (wrt l k) := hF
  have hR : FR r es L (wrt l k) := hR
  have hll := h.len
  refine ⟨fun hc => ?_, fun hc => ?_⟩
  · have hk1 : k < l.length := by
      have hc : decide ((k : Int) < (l.length : Int)) = true := hc
      simpa using hc
    have hO := h.ops _ (List.getElem_mem hk1)
    have hw : wrt l k ≤ 1048576 := h.take k
    have hw2 : wrt l (k + 1) ≤ 1048576 := h.take (k + 1)
    refine ⟨by omega, l[k], lgAt (n := k) hk1, ?_⟩
    refine ⟨rfl, ?_⟩
    refine ⟨_, _, _, _, rdo4_fn room r l[k] (hR.frk hF) (by omega) (hO.mono (by decide)), trivial, rfl, ?_⟩
    refine ⟨rfl, ?_⟩
    show TrQ _ _ _ _ _ _ _
    refine TrQ.regionX tblOK (by kernel_rfl) ?_
    refine ⟨_, _, _, fun g => _, fun g => _, does_fn room es L l[k] (wrt l k) hF (by omega) (hO.mono (by decide)), ⟨rfl, rfl, rfl, trivial⟩, rfl, fun _ => rfl, fun g => ?_⟩
    have hF2 := doF_ok (room := room) (o := l[k]) (b := g.1) hF g.2
    obtain ⟨hR2, hx, he⟩ := hR.step hF room l[k] g.2
    rw [← wrt_succ l hk1] at hF2 hR2
    refine ⟨fun c => ?_, fun _ => ?_⟩
    · exact absurd he (by simpa using c)
    refine ⟨fun c => ?_, fun _ => ?_⟩
    · exact absurd hx.symm (by simpa using c)
    refine ⟨_, _, _, _, stands_fn room _ _ _ hR2 hF2 (by omega), ⟨rfl, rfl, rfl, trivial⟩, rfl, ?_⟩
    refine ⟨fun h => absurd h (by decide), fun _ => ?_⟩
    exact ⟨by omega, (k + 1, (doF room es L l[k] g.1).es, (doF room es L l[k] g.1).L, (doR room r l[k]).l), ⟨hk1, hF2, hR2⟩, by show l.length - (k + 1) < l.length - k; omega, Le.sub ⟨rfl, rfl, rfl, rfl, rfl, rfl, rfl, trivial⟩ ⟨rfl, rfl, rfl, rfl, trivial⟩⟩
  · refine ⟨_, _, _, _, alive4_spec, trivial, rfl, ?_⟩
    exact ⟨_, _, _, Le.refl _ _, rfl, rfl, trivial, rfl⟩
end Go.Proofs.Ythghcdddambaeaa
