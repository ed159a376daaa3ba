/-
  FilesRenames: what is renamed is the same store, and all others are as they were.
-/
import Derived.Test.YthghcdddambaeaaFb
set_option linter.unusedVariables false
set_option linter.unusedSimpArgs false
set_option maxRecDepth 10000
namespace Go.Proofs.Ythghcdddambaeaa
open Go.RowKit Go.Proofs
theorem fget_of_mem {es : FMap} {L : SPool} {W : Nat} {n : List UInt8} : ∀ {l : FMap}, (∀ p ∈ l, ∃ a, pA p = some a ∧ a ∈ L.map (·.1)) → n ∈ mkeys l → ∃ a, fget l n = some a
  | [], _, h => by cases h
  | p :: l, hx, h => by
    rw [fget_cons]
    cases e : eqA n p with
    | true =>
      obtain ⟨a, ha, _⟩ := hx p (List.mem_cons_self ..)
      exact ⟨a, ha⟩
    | false =>
      rw [mkeys_cons] at h
      rcases List.mem_cons.1 h with h | h
      · exact absurd h (eqA_no e)
      · exact fget_of_mem (es := es) (L := L) (W := W) (fun p hp => hx p (List.mem_cons_of_mem _ hp)) h
theorem PoolOK.fget {es : FMap} {L : SPool} {W : Nat} (h : PoolOK es L W) {n : List UInt8} (hn : n ∈ mkeys es) : ∃ a, fget es n = some a := fget_of_mem (es := es) (W := W) h.ex hn
theorem fget_put (k : List UInt8) (a : Option Nat) : ∀ l : FMap, fget (putA l k a) k = a
  | [] => by
    rw [putA_nil, fget_cons, show eqA k (mkA k a) = true from eqA_iff.2 rfl]
    rfl
  | p :: l => by
    rw [putA_cons]
    cases e : eqA k p with
    | true =>
      simp only
      rw [fget_cons, show eqA k (mkA k a) = true from eqA_iff.2 rfl]
      rfl
    | false =>
      simp only
      rw [fget_cons, e]
      exact fget_put k a l
theorem fget_put_ne {k n : List UInt8} (a : Option Nat) (h : n ≠ k) : ∀ l : FMap, fget (putA l k a) n = fget l n
  | [] => by
    rw [putA_nil, fget_cons, show eqA n (mkA k a) = false from Bool.eq_false_iff.2 fun e => h (eqA_iff.1 e)]
  | p :: l => by
    rw [putA_cons]
    cases e : eqA k p with
    | true =>
      simp only
      rw [fget_cons, fget_cons, show eqA n (mkA k a) = false from Bool.eq_false_iff.2 fun e => h (eqA_iff.1 e), show eqA n p = false from Bool.eq_false_iff.2 fun e2 => h ((eqA_iff.1 e2).trans (eqA_iff.1 e).symm)]
    | false =>
      simp only
      rw [fget_cons, fget_cons, fget_put_ne a h l]
theorem fget_none {n : List UInt8} : ∀ {l : FMap}, n ∉ mkeys l → fget l n = none
  | [], _ => rfl
  | p :: l, h => by
    rw [mkeys_cons, List.mem_cons, not_or] at h
    rw [fget_cons, show eqA n p = false from Bool.eq_false_iff.2 fun e => h.1 (eqA_iff.1 e)]
    exact fget_none h.2
theorem mkeys_del {k : List UInt8} : ∀ {l : FMap}, (mkeys l).Nodup → ∀ {n : List UInt8}, n ∈ mkeys (delA l k) ↔ n ∈ mkeys l ∧ n ≠ k
  | [], _, n => by
    show n ∈ mkeys ([] : FMap) ↔ _
    rw [mkeys_nil]
    simp
  | p :: l, h, n => by
    rw [mkeys_cons, List.nodup_cons] at h
    rw [delA_cons]
    cases e : eqA k p with
    | true =>
      have e := eqA_iff.1 e
      simp only
      rw [mkeys_cons, List.mem_cons]
      constructor
      · intro hn
        exact ⟨.inr hn, fun e2 => h.1 (by rw [← e, ← e2]; exact hn)⟩
      · rintro ⟨hn | hn, hne⟩
        · exact absurd (hn.trans e.symm) hne
        · exact hn
    | false =>
      simp only
      rw [mkeys_cons, mkeys_cons, List.mem_cons, List.mem_cons, mkeys_del h.2]
      constructor
      · rintro (hn | ⟨hn, hne⟩)
        · exact ⟨.inl hn, fun e2 => eqA_no e (e2.symm.trans hn)⟩
        · exact ⟨.inr hn, hne⟩
      · rintro ⟨hn | hn, hne⟩
        · exact .inl hn
        · exact .inr ⟨hn, hne⟩
theorem mem_keysS {es : FMap} {n : List UInt8} : n ∈ keysS es ↔ n ∈ mkeys es := (List.mergeSort_perm _ _).mem_iff
@[reducible] def frK (l : List Op4) (fr to : List UInt8) (k : Nat) : KL := [(0, vL uO4 l), (1, vS fr), (2, vS to), (7, vP 1001), (55, vL uO4 l), (56, vI (l.length : Nat)), (57, vI (k : Nat))]
@[reducible] def frK2 (fr to : List UInt8) (w : List (List UInt8)) (a : Nat) (j : Int) (i : Nat) : KL := [(1, vS fr), (2, vS to), (7, vP 1001), (12, vAd a), (13, vI 0), (15, vAd a), (16, vI 0), (18, vI j), (107, vL .str w), (108, vI (w.length : Nat)), (109, vI (i : Nat))]
set_option maxHeartbeats 1000000 in
theorem frenames_spec (l : List Op4) (fr to : List UInt8) (h : ScrOK l 1048576) (hfr : fr.length ≤ 1048576) (hto : to.length ≤ 1048576) : Fn Try.prog 10 [vL uO4 l, vS fr, vS to] [] [] (vB true) [] := by
  refine Fn.of tblOK [] _ _ _ _ _ Try.func10 rfl rfl (by kernel_rfl) (by kernel_rfl) rfl (drawOK tblOK) rfl ?_
  refine ⟨_, _, _, _, fnew_ok 100 (by decide), trivial, rfl, ?_⟩
  refine ⟨fun h => absurd h (by decide), fun _ => ?_⟩
  refine ⟨_, _, _, _, few4_of h (by decide), trivial, rfl, ?_⟩
  refine ⟨fun _ => ?_, fun _ => ?_⟩
  · refine ⟨fun _ => ?_, fun h => absurd h (by decide)⟩
    refine ⟨_, _, _, _, alive4_spec, trivial, rfl, ?_⟩
    exact ⟨_, _, _, Le.refl _ _, rfl, rfl, trivial, rfl⟩
  refine ⟨by omega, ?_⟩
  refine ⟨fun _ => ?_, fun _ => ?_⟩
  · refine ⟨fun _ => ?_, fun h => absurd h (by decide)⟩
    refine ⟨_, _, _, _, alive4_spec, trivial, rfl, ?_⟩
    exact ⟨_, _, _, Le.refl _ _, rfl, rfl, trivial, rfl⟩
  show TrQ _ _ _ _ _ _ _
  refine TrQ.le (Le.emp 1003 rfl) ?_
  refine TrQ.loop tblOK (drawOK tblOK) [7] (by kernel_rfl) (X := Nat × FMap × SPool) (fun x => frK l fr to x.1) (fun x => flS 1001 1002 1003 100 x.2.1 x.2.2) (fun x => x.1 ≤ l.length ∧ FOK x.2.1 x.2.2 (wrt l x.1)) (fun x => l.length - x.1) (0, [], []) ⟨Nat.zero_le _, FOK.nil _⟩ ?_ ?_
  · exact Le.sub ⟨rfl, rfl, rfl, rfl, rfl, rfl, rfl, trivial⟩ ⟨rfl, rfl, rfl, trivial⟩
  rintro ⟨k, es, L⟩ ⟨hk, hF⟩
  have hk : k ≤ l.length := hk
  have hF : FOK es L (wrt l k) := hF
  have hll := h.len
  refine ⟨fun hc => ?_, fun hc => ?_⟩
  · have hk1 : k < l.length := by
      have hc : decide ((k : Int) < (l.length : Int)) = true := hc
      simpa using hc
    have hO := h.ops _ (List.getElem_mem hk1)
    have hw : wrt l k ≤ 1048576 := h.take k
    refine ⟨by omega, l[k], lgAt (n := k) hk1, ?_⟩
    refine ⟨rfl, ?_⟩
    show TrQ _ _ _ _ _ _ _
    refine TrQ.regionX tblOK (by kernel_rfl) ?_
    refine ⟨_, _, _, fun g => _, fun g => _, does_fn 100 es L l[k] (wrt l k) hF (by omega) (hO.mono (by decide)), ⟨rfl, rfl, rfl, trivial⟩, rfl, fun _ => rfl, fun g => ?_⟩
    have hF2 := doF_ok (room := 100) (o := l[k]) (b := g.1) hF g.2
    rw [← wrt_succ l hk1] at hF2
    exact ⟨by omega, (k + 1, (doF 100 es L l[k] g.1).es, (doF 100 es L l[k] g.1).L), ⟨hk1, hF2⟩, by show l.length - (k + 1) < l.length - k; omega, Le.sub ⟨rfl, rfl, rfl, rfl, rfl, rfl, rfl, trivial⟩ ⟨rfl, rfl, rfl, trivial⟩⟩
  have hto' : to.length ≤ 4294967296 := by omega
  have hkl : (keysS es).length ≤ 16 := by rw [keysS_length]; exact hF.nm.few
  have hkl' : (keysS es).length ≤ 4294967296 := by omega
  have hsame : decide (keysS es = keysS es) = true := decide_eq_true rfl
  refine ⟨_, _, _, _, fnames_spec 100 es hF.nm, ⟨rfl, rfl, trivial⟩, rfl, ?_⟩
  cases hg : fget es fr with
  | none =>
    refine ⟨_, _, _, _, fopen_no 100 es fr hg, ⟨rfl, rfl, trivial⟩, rfl, ?_⟩
    cases hn : nameOK to with
    | false =>
      refine ⟨_, _, _, _, frename_arg 100 es fr to hto' hn, ⟨rfl, rfl, trivial⟩, rfl, ?_⟩
      refine ⟨fun _ => ?_, fun h => absurd h (by decide)⟩
      refine ⟨_, _, _, _, alive4_spec, trivial, rfl, ?_⟩
      refine ⟨fun _ => ?_, fun h => absurd h (by decide)⟩
      refine ⟨fun _ => ?_, fun h => absurd h (by decide)⟩
      refine ⟨_, _, _, _, fnames_spec 100 es hF.nm, ⟨rfl, rfl, trivial⟩, rfl, ?_⟩
      refine ⟨_, _, _, _, sameT_spec (keysS es) (keysS es) hkl', trivial, rfl, ?_⟩
      exact ⟨_, _, _, Le.refl _ _, rfl, hsame, trivial, rfl⟩
    | true =>
      refine ⟨_, _, _, _, frename_no 100 es fr to hto' hn hg, ⟨rfl, rfl, trivial⟩, rfl, ?_⟩
      refine ⟨fun _ => ?_, fun h => absurd h (by decide)⟩
      refine ⟨_, _, _, _, alive4_spec, trivial, rfl, ?_⟩
      refine ⟨fun _ => ?_, fun h => absurd h (by decide)⟩
      refine ⟨fun _ => ?_, fun h => absurd h (by decide)⟩
      refine ⟨_, _, _, _, fnames_spec 100 es hF.nm, ⟨rfl, rfl, trivial⟩, rfl, ?_⟩
      refine ⟨_, _, _, _, sameT_spec (keysS es) (keysS es) hkl', trivial, rfl, ?_⟩
      exact ⟨_, _, _, Le.refl _ _, rfl, hsame, trivial, rfl⟩
  | some a =>
    refine ⟨_, _, _, _, fopen_ok 100 es fr a hg, ⟨rfl, rfl, trivial⟩, rfl, ?_⟩
    cases hn : nameOK to with
    | false =>
      refine ⟨_, _, _, _, frename_arg 100 es fr to hto' hn, ⟨rfl, rfl, trivial⟩, rfl, ?_⟩
      refine ⟨fun _ => ?_, fun h => absurd h (by decide)⟩
      refine ⟨_, _, _, _, alive4_spec, trivial, rfl, ?_⟩
      refine ⟨fun _ => ?_, fun h => absurd h (by decide)⟩
      refine ⟨fun h => absurd h (by decide), fun _ => ?_⟩
      refine ⟨_, _, _, _, files_Right_fn to hto', trivial, rfl, ?_⟩
      rw [hn]
      refine ⟨fun _ => ?_, fun h => absurd h (by decide)⟩
      refine ⟨_, _, _, _, fnames_spec 100 es hF.nm, ⟨rfl, rfl, trivial⟩, rfl, ?_⟩
      refine ⟨_, _, _, _, sameT_spec (keysS es) (keysS es) hkl', trivial, rfl, ?_⟩
      exact ⟨_, _, _, Le.refl _ _, rfl, hsame, trivial, rfl⟩
    | true =>
      refine ⟨_, _, _, _, frename_ok 100 es fr to a hto' hn hg, ⟨rfl, rfl, trivial⟩, rfl, ?_⟩
      refine ⟨fun h => absurd h (by decide), fun _ => ?_⟩
      have hp1 := hF.pl.ren (to := to) hg
      have ht2 : fget (putA (delA es fr) to (some a)) to = some a := fget_put to (some a) _
      refine ⟨_, _, _, _, fopen_ok 100 (putA (delA es fr) to (some a)) to a ht2, ⟨rfl, rfl, trivial⟩, rfl, ?_⟩
      have hall : ∀ n ∈ keysS es, n ≠ fr → ∃ b, fget (putA (delA es fr) to (some a)) n = some b := fun n hn2 hne =>
        hp1.fget (mem_mkeys_put.2 (.inr ((mkeys_del hF.nm.nd).2 ⟨mem_keysS.1 hn2, hne⟩)))
      cases hg2 : fget (putA (delA es fr) to (some a)) fr with
      | none =>
        have hft : True := trivial
        refine ⟨_, _, _, _, fopen_no 100 _ _ hg2, ⟨rfl, rfl, trivial⟩, rfl, ?_⟩
        show TrQ _ _ _ _ _ _ _
        refine TrQ.loop tblOK (drawOK tblOK) [] (by kernel_rfl) (X := Nat) (fun i => frK2 fr to (keysS es) a 40 i) (fun _ => flS 1001 1002 1003 100 (putA (delA es fr) to (some a)) L) (fun i => i ≤ (keysS es).length) (fun i => (keysS es).length - i) 0 (Nat.zero_le _) ?_ ?_
        · exact Le.sub ⟨rfl, rfl, rfl, rfl, rfl, rfl, rfl, rfl, rfl, rfl, rfl, trivial⟩ ⟨rfl, rfl, rfl, trivial⟩
        intro i hi
        refine ⟨fun hd => ?_, fun _ => ?_⟩
        · have hd : decide ((i : Int) < ((keysS es).length : Int)) = true := hd
          have hd : i < (keysS es).length := by simpa using hd
          refine ⟨by omega, (keysS es)[i], lgAt (n := i) hd, ?_⟩
          cases hx : fget (putA (delA es fr) to (some a)) (keysS es)[i] with
          | none =>
            refine ⟨_, _, _, _, fopen_no 100 _ _ hx, ⟨rfl, rfl, trivial⟩, rfl, ?_⟩
            refine ⟨fun hne => ?_, fun _ => ?_⟩
            · have hne : (keysS es)[i] ≠ fr := by
                have hne : (!decide ((keysS es)[i] = fr)) = true := hne
                simpa using hne
              obtain ⟨b, hb⟩ := hall _ (List.getElem_mem hd) hne
              rw [hx] at hb
              cases hb
            · exact ⟨by omega, i + 1, by omega, by omega, Le.sub ⟨rfl, rfl, rfl, rfl, rfl, rfl, rfl, rfl, rfl, rfl, rfl, trivial⟩ ⟨rfl, rfl, rfl, trivial⟩⟩
          | some b =>
            refine ⟨_, _, _, _, fopen_ok 100 _ _ b hx, ⟨rfl, rfl, trivial⟩, rfl, ?_⟩
            refine ⟨fun _ => ?_, fun _ => ?_⟩
            · refine ⟨fun h => absurd h (by decide), fun _ => ?_⟩
              exact ⟨by omega, i + 1, by omega, by omega, Le.sub ⟨rfl, rfl, rfl, rfl, rfl, rfl, rfl, rfl, rfl, rfl, rfl, trivial⟩ ⟨rfl, rfl, rfl, trivial⟩⟩
            · exact ⟨by omega, i + 1, by omega, by omega, Le.sub ⟨rfl, rfl, rfl, rfl, rfl, rfl, rfl, rfl, rfl, rfl, rfl, trivial⟩ ⟨rfl, rfl, rfl, trivial⟩⟩
        · refine ⟨_, _, _, _, alive4_spec, trivial, rfl, ?_⟩
          refine ⟨fun _ => ?_, fun h => absurd h (by decide)⟩
          refine ⟨fun _ => ?_, fun h => absurd h (by decide)⟩
          refine ⟨fun _ => ?_, fun h => absurd h (by decide)⟩
          refine ⟨rfl, ?_⟩
          refine ⟨fun _ => ?_, fun hne => ?_⟩
          · exact ⟨_, _, _, Le.refl _ _, rfl, rfl, trivial, rfl⟩
          · have hne : decide (fr = to) = false := hne
            exact ⟨_, _, _, Le.refl _ _, rfl, rfl, trivial, rfl⟩
      | some b =>
        have hft : fr = to := by
          rcases Decidable.em (fr = to) with e | e
          · exact e
          · rw [fget_put_ne _ e, fget_none fun hm => ((mkeys_del hF.nm.nd).1 hm).2 rfl] at hg2
            cases hg2
        refine ⟨_, _, _, _, fopen_ok 100 _ _ b hg2, ⟨rfl, rfl, trivial⟩, rfl, ?_⟩
        show TrQ _ _ _ _ _ _ _
        refine TrQ.loop tblOK (drawOK tblOK) [] (by kernel_rfl) (X := Nat) (fun i => frK2 fr to (keysS es) a 0 i) (fun _ => flS 1001 1002 1003 100 (putA (delA es fr) to (some a)) L) (fun i => i ≤ (keysS es).length) (fun i => (keysS es).length - i) 0 (Nat.zero_le _) ?_ ?_
        · exact Le.sub ⟨rfl, rfl, rfl, rfl, rfl, rfl, rfl, rfl, rfl, rfl, rfl, trivial⟩ ⟨rfl, rfl, rfl, trivial⟩
        intro i hi
        refine ⟨fun hd => ?_, fun _ => ?_⟩
        · have hd : decide ((i : Int) < ((keysS es).length : Int)) = true := hd
          have hd : i < (keysS es).length := by simpa using hd
          refine ⟨by omega, (keysS es)[i], lgAt (n := i) hd, ?_⟩
          cases hx : fget (putA (delA es fr) to (some a)) (keysS es)[i] with
          | none =>
            refine ⟨_, _, _, _, fopen_no 100 _ _ hx, ⟨rfl, rfl, trivial⟩, rfl, ?_⟩
            refine ⟨fun hne => ?_, fun _ => ?_⟩
            · have hne : (keysS es)[i] ≠ fr := by
                have hne : (!decide ((keysS es)[i] = fr)) = true := hne
                simpa using hne
              obtain ⟨b, hb⟩ := hall _ (List.getElem_mem hd) hne
              rw [hx] at hb
              cases hb
            · exact ⟨by omega, i + 1, by omega, by omega, Le.sub ⟨rfl, rfl, rfl, rfl, rfl, rfl, rfl, rfl, rfl, rfl, rfl, trivial⟩ ⟨rfl, rfl, rfl, trivial⟩⟩
          | some b =>
            refine ⟨_, _, _, _, fopen_ok 100 _ _ b hx, ⟨rfl, rfl, trivial⟩, rfl, ?_⟩
            refine ⟨fun _ => ?_, fun _ => ?_⟩
            · refine ⟨fun h => absurd h (by decide), fun _ => ?_⟩
              exact ⟨by omega, i + 1, by omega, by omega, Le.sub ⟨rfl, rfl, rfl, rfl, rfl, rfl, rfl, rfl, rfl, rfl, rfl, trivial⟩ ⟨rfl, rfl, rfl, trivial⟩⟩
            · exact ⟨by omega, i + 1, by omega, by omega, Le.sub ⟨rfl, rfl, rfl, rfl, rfl, rfl, rfl, rfl, rfl, rfl, rfl, trivial⟩ ⟨rfl, rfl, rfl, trivial⟩⟩
        · refine ⟨_, _, _, _, alive4_spec, trivial, rfl, ?_⟩
          refine ⟨fun _ => ?_, fun h => absurd h (by decide)⟩
          refine ⟨fun _ => ?_, fun h => absurd h (by decide)⟩
          refine ⟨fun _ => ?_, fun h => absurd h (by decide)⟩
          refine ⟨rfl, ?_⟩
          refine ⟨fun _ => ?_, fun hne => ?_⟩
          · exact ⟨_, _, _, Le.refl _ _, rfl, rfl, trivial, rfl⟩
          · have hne : decide (fr = to) = false := hne
            exact absurd hft (of_decide_eq_false hne)
end Go.Proofs.Ythghcdddambaeaa
