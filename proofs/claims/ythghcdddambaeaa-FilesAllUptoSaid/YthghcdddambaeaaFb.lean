/-
  FilesMany: there are never more files than there may be, and their names rise.
-/
import Derived.Test.YthghcdddambaeaaFa
set_option linter.unusedVariables false
set_option linter.unusedSimpArgs false
set_option maxRecDepth 10000
namespace Go.Proofs.Ythghcdddambaeaa
open Go.RowKit Go.Proofs
def wrt (l : List Op4) (k : Nat) : Nat := ((l.take k).map fun o => (oB (pS o)).length).sum
theorem wrt_succ (l : List Op4) {k : Nat} (h : k < l.length) : wrt l (k + 1) = wrt l k + (oB (pS l[k])).length := sum_take_succ (fun o : Op4 => (oB (pS o)).length) h
theorem OpBd.mono {o : Op4} {n n' : Nat} (h : OpBd o n) (hn : n ≤ n') : OpBd o n' :=
  ⟨Nat.le_trans h.b hn, Nat.le_trans h.keep hn, Nat.le_trans h.name hn, Nat.le_trans h.to hn, Nat.le_trans h.keeps hn, fun k hk => Nat.le_trans (h.kl k hk) hn⟩
theorem FOK.nil (W : Nat) : FOK [] [] W := ⟨⟨List.nodup_nil, fun s hs => (by cases hs), Nat.zero_le _⟩, ⟨fun p hp => (by cases hp), List.nodup_nil, List.nodup_nil, fun p hp => (by cases hp), fun p hp => (by cases hp)⟩⟩
theorem few4_of {l : List Op4} {N : Nat} (h : ScrOK l N) (hN : N ≤ 1073741824) : Fn Try.prog 42 [vL uO4 l] [] [] (vB (fewB l)) [] :=
  few4_fn l (Nat.le_trans h.len hN) (Nat.le_trans h.sum hN) fun o ho => Nat.le_trans (h.ops o ho).keeps hN
theorem rise_at {es : FMap} (h : (mkeys es).Nodup) {i : Nat} (h1 : 1 ≤ i) (h2 : i < (keysS es).length) : (Op.bytesLess (keysS es)[i] ((keysS es)[i - 1]'(by omega)) || decide ((keysS es)[i] = (keysS es)[i - 1]'(by omega))) = false := by
  have h3 := List.pairwise_iff_getElem.1 (keysS_rise h) (i - 1) i (by omega) h2 (by omega)
  rw [Go.Proofs.bytesLess_eq]
  rw [Bool.or_eq_false_iff]
  refine ⟨decide_eq_false fun h4 => ?_, decide_eq_false fun h4 => ?_⟩
  · exact List.lt_irrefl _ (List.lt_trans h3 h4)
  · rw [h4] at h3
    exact List.lt_irrefl _ h3
@[reducible] def fmK (l : List Op4) (k : Nat) : KL := [(0, vL uO4 l), (3, vP 1001), (33, vL uO4 l), (34, vI (l.length : Nat)), (35, vI (k : Nat))]
@[reducible] def fmK2 (l : List Op4) (k : Nat) (n : List (List UInt8)) (i : Nat) : KL := [(0, vL uO4 l), (3, vP 1001), (33, vL uO4 l), (34, vI (l.length : Nat)), (35, vI (k : Nat)), (7, vL .str n), (8, vI (i : Nat))]
set_option maxHeartbeats 1000000 in
theorem fmany_spec (l : List Op4) (h : ScrOK l 1048576) : Fn Try.prog 11 [vL uO4 l] [] [] (vB true) [] := by
  refine Fn.of tblOK [] _ _ _ _ _ Try.func11 rfl rfl (by kernel_rfl) (by kernel_rfl) rfl (drawOK tblOK) rfl ?_
  refine ⟨_, _, _, _, fnew_ok 100 (by decide), trivial, rfl, ?_⟩
  refine ⟨fun h => absurd h (by decide), fun _ => ?_⟩
  refine ⟨_, _, _, _, few4_of h (by decide), trivial, rfl, ?_⟩
  refine ⟨fun _ => ?_, fun _ => ?_⟩
  · refine ⟨fun _ => ?_, fun h => absurd h (by decide)⟩
    refine ⟨_, _, _, _, alive4_spec, trivial, rfl, ?_⟩
    exact ⟨_, _, _, Le.refl _ _, rfl, rfl, trivial, rfl⟩
  show TrQ _ _ _ _ _ _ _
  refine TrQ.le (Le.emp 1003 rfl) ?_
  refine TrQ.loop tblOK (drawOK tblOK) [7] (by kernel_rfl) (X := Nat × FMap × SPool) (fun x => fmK l x.1) (fun x => flS 1001 1002 1003 100 x.2.1 x.2.2) (fun x => x.1 ≤ l.length ∧ FOK x.2.1 x.2.2 (wrt l x.1)) (fun x => l.length - x.1) (0, [], []) ⟨Nat.zero_le _, FOK.nil _⟩ ?_ ?_
  · exact Le.sub ⟨rfl, rfl, rfl, rfl, rfl, trivial⟩ ⟨rfl, rfl, rfl, trivial⟩
  rintro ⟨k, es, L⟩ ⟨hk, hF⟩
  have hk : k ≤ l.length := hk
  have hF : FOK es L (wrt l k) := hF
  refine ⟨fun hc => ?_, fun hc => ?_⟩
  · have hk1 : k < l.length := by
      have hc : decide ((k : Int) < (l.length : Int)) = true := hc
      simpa using hc
    have hO := h.ops _ (List.getElem_mem hk1)
    have hw : wrt l k ≤ 1048576 := h.take k
    have hll := h.len
    refine ⟨by omega, l[k], lgAt (n := k) hk1, ?_⟩
    refine ⟨rfl, ?_⟩
    show TrQ _ _ _ _ _ _ _
    refine TrQ.regionX tblOK (by kernel_rfl) ?_
    refine ⟨_, _, _, fun g => _, fun g => _, does_fn 100 es L l[k] (wrt l k) hF (by omega) (hO.mono (by decide)), ⟨rfl, rfl, rfl, trivial⟩, rfl, fun _ => rfl, fun g => ?_⟩
    have hF2 := doF_ok (room := 100) (o := l[k]) (b := g.1) hF g.2
    rw [← wrt_succ l hk1] at hF2
    refine ⟨_, _, _, _, fnames_spec 100 (doF 100 es L l[k] g.1).es hF2.nm, ⟨rfl, rfl, trivial⟩, rfl, ?_⟩
    have hlen : (keysS (doF 100 es L l[k] g.1).es).length ≤ 16 := by rw [keysS_length]; exact hF2.nm.few
    show TrQ _ _ _ _ _ _ _
    refine TrQ.loop tblOK (drawOK tblOK) [] (by kernel_rfl) (X := Nat) (fun i => fmK2 l k (keysS (doF 100 es L l[k] g.1).es) i) (fun _ => flS 1001 1002 1003 100 (doF 100 es L l[k] g.1).es (doF 100 es L l[k] g.1).L) (fun i => 1 ≤ i ∧ i ≤ (keysS (doF 100 es L l[k] g.1).es).length + 1) (fun i => (keysS (doF 100 es L l[k] g.1).es).length + 1 - i) 1 ⟨Nat.le_refl _, by omega⟩ ?_ ?_
    · exact Le.sub ⟨rfl, rfl, rfl, rfl, rfl, rfl, rfl, trivial⟩ ⟨rfl, rfl, rfl, trivial⟩
    rintro i ⟨hi1, hi2⟩
    refine ⟨fun hd => ?_, fun hd => ?_⟩
    · have hd : decide ((i : Int) < ((keysS (doF 100 es L l[k] g.1).es).length : Int)) = true := hd
      have hd : i < (keysS (doF 100 es L l[k] g.1).es).length := by simpa using hd
      have hi3 : i - 1 < (keysS (doF 100 es L l[k] g.1).es).length := by omega
      refine ⟨by omega, (keysS (doF 100 es L l[k] g.1).es)[i], lgAt (n := i) hd, ?_⟩
      refine ⟨by omega, ?_⟩
      refine ⟨by omega, (keysS (doF 100 es L l[k] g.1).es)[i - 1]'hi3, (by rw [show ((i : Int) - 1).toNat = i - 1 by omega]; exact lgAt (n := i - 1) hi3), ?_⟩
      refine ⟨rfl, fun he => ?_, fun _ => ?_⟩
      · have := rise_at hF2.nm.nd hi1 hd
        exact absurd (this.symm.trans he) (by decide)
      · exact ⟨by omega, i + 1, ⟨by omega, by omega⟩, by omega, Le.sub ⟨rfl, rfl, rfl, rfl, rfl, rfl, rfl, trivial⟩ ⟨rfl, rfl, rfl, trivial⟩⟩
    · refine ⟨fun hm => ?_, fun _ => ?_⟩
      · have hm : decide ((16 : Int) < ((keysS (doF 100 es L l[k] g.1).es).length : Int)) = true := hm
        have := of_decide_eq_true hm
        omega
      · exact ⟨by omega, (k + 1, (doF 100 es L l[k] g.1).es, (doF 100 es L l[k] g.1).L), ⟨hk1, hF2⟩, by show l.length - (k + 1) < l.length - k; omega, Le.sub ⟨rfl, rfl, rfl, rfl, rfl, trivial⟩ ⟨rfl, rfl, rfl, trivial⟩⟩
  · refine ⟨_, _, _, _, alive4_spec, trivial, rfl, ?_⟩
    exact ⟨_, _, _, Le.refl _ _, rfl, rfl, trivial, rfl⟩
end Go.Proofs.Ythghcdddambaeaa
