/-
  The document's Restore.
-/
import Derived.Test.YthghcdddambaeaaLG
set_option linter.unusedVariables false
set_option linter.unusedSimpArgs false
set_option maxRecDepth 10000
namespace Go.Proofs.Ythghcdddambaeaa
open Go.RowKit Go.Proofs

/-- A list in which clusters are as great as the parent's. -/
structure InvP (L : List Bup) : Prop extends InvL L where
  bits : ∀ b, b ∈ L → bPa b ≠ [] → ∀ x, L.find? (fun y => decide (bNm y = bPa b)) = some x → bBits x = bBits b
theorem InvP.nil : InvP [] := ⟨InvL.nil, fun b h => by cases h⟩
theorem find_there {L : List Bup} {nm : List UInt8} (h : 0 ≤ fnd L nm) : ∃ x, L.find? (fun y => decide (bNm y = nm)) = some x := by
  cases hx : L.find? (fun y => decide (bNm y = nm)) with
  | some x => exact ⟨x, rfl⟩
  | none => have := (fnd_neg_iff L nm).2 hx; omega
theorem find_append_there {L : List Bup} (b : Bup) {nm : List UInt8} (h : 0 ≤ fnd L nm) : (L ++ [b]).find? (fun y => decide (bNm y = nm)) = L.find? (fun y => decide (bNm y = nm)) := by
  obtain ⟨x, hx⟩ := find_there h
  rw [List.find?_append, hx]
  rfl
theorem par_there {L : List Bup} (hI : InvL L) {b : Bup} (hb : b ∈ L) (hp : bPa b ≠ []) : 0 ≤ fnd L (bPa b) := by
  obtain ⟨k, hk, rfl⟩ := List.getElem_of_mem hb
  exact (hI.par k _ (List.getElem?_eq_getElem hk) (by simpa using hp)).1
theorem InvP.add {L : List Bup} (hI : InvP L) (b : Bup) : InvP (addL L b) := by
  refine ⟨hI.toInvL.add b, ?_⟩
  unfold addL
  split
  · rename_i hE
    intro c hc hp x hx
    rcases List.mem_append.1 hc with hc | hc
    · rw [find_append_there b (par_there hI.toInvL hc hp)] at hx
      exact hI.bits c hc hp x hx
    · simp only [List.mem_singleton] at hc
      subst hc
      have h0 := (addE_zero hE).2.2.2 (by simpa using hp)
      rw [find_append_there c h0] at hx
      rw [← lgetI_find] at hx
      unfold lgetI at hx
      rw [if_pos h0] at hx
      by_cases hb : bBits x = bBits c
      · exact hb
      · exfalso
        unfold addE at hE
        rw [hx] at hE
        split at hE
        · cases hE
        split at hE
        · cases hE
        rw [if_pos (by simp [hp, hb])] at hE
        cases hE
  · exact hI.bits
theorem rBits_le {b : Bup} (h : rightB b = true) : 16 ≤ clB (bBits b) ∧ clB (bBits b) ≤ 128 := by
  obtain ⟨h1, h2, _, _⟩ := rightB_small h
  exact clB_le h1 h2
theorem right_pieces {b : Bup} (h : rightB b = true) : ∀ p, p ∈ bPc b → 0 ≤ pC p ∧ pC p < bSz b ∧ ((pB p).length : Int) = clB (bBits b) := fun p hp => by
  simp only [rightB, Bool.and_eq_true] at h
  have := okP_mem _ _ _ _ h.1.2 p hp
  omega
theorem diskB_length {b : Bup} (h : rightB b = true) (below : List UInt8) : (diskB b below).length = (bSz b * clB (bBits b)).toNat := by
  have h1 := rBits_le h
  unfold diskB
  refine layN_length (by omega) _ _ (fun p hp => by have := right_pieces h p hp; omega) ?_
  split
  · simp
  · rw [laid_length _ _ (by omega)]; simp
/-- The disk of a backup, cluster by cluster. -/
theorem diskB_eq {b : Bup} (h : rightB b = true) (below : List UInt8) (hp : bPa b ≠ [] → ∃ m, below.length = m * (clB (bBits b)).toNat) (hn : bPa b = [] → below = []) :
    diskB b below = diskC (bSz b).toNat (clB (bBits b)).toNat below (bPc b) := by
  have h1 := rBits_le h
  have h2 := (rightB_small h).2.2.1
  have hpc := right_pieces h
  obtain ⟨s, hs⟩ : ∃ s : Nat, bSz b = s := ⟨(bSz b).toNat, by omega⟩
  obtain ⟨n, hcn⟩ : ∃ n : Nat, clB (bBits b) = n := ⟨(clB (bBits b)).toNat, by omega⟩
  unfold diskB
  simp only
  rw [hcn, Int.toNat_natCast] at hp
  rw [hs, hcn, ← Int.natCast_mul, Int.toNat_natCast, Int.toNat_natCast, Int.toNat_natCast]
  refine disk_eq (by omega) (bPc b) below _ (fun p hp => ?_) ?_ ?_
  · have := hpc p hp; omega
  · split
    · simp
    · rw [laid_length _ _ (by omega)]; simp
  · intro c j hc hj
    split
    · rename_i hh
      rw [hn (of_decide_eq_true hh)]
      exact zeros_clu c j hc hj
    · rename_i hh
      obtain ⟨m, hm⟩ := hp (by simpa using hh)
      rw [List.length_replicate]
      exact over_clu below hm c j hc hj
theorem restL_length {L : List Bup} (hI : InvL L) {nm : List UInt8} {x : Bup} (hx : L.find? (fun y => decide (bNm y = nm)) = some x) : (restL L nm).length = (bSz x * clB (bBits x)).toNat := by
  show (restS L nm (restB L L.length)).length = _
  unfold restS
  rw [lgetI_find, hx]
  exact diskB_length (hI.right x (List.mem_of_find?_eq_some hx)) _
/-- What is restored: of who is found, over what is restored of its parent. -/
theorem restL_eq {L : List Bup} (hI : InvP L) {nm : List UInt8} {x : Bup} (hx : L.find? (fun y => decide (bNm y = nm)) = some x) :
    restL L nm = diskC (bSz x).toNat (clB (bBits x)).toNat (if decide (bPa x = []) = true then [] else restL L (bPa x)) (bPc x) := by
  have hxm := List.mem_of_find?_eq_some hx
  have hr := hI.right x hxm
  have e : restL L nm = diskB x (restB L L.length (bPa x)) := by
    show restS L nm (restB L L.length) = _
    unfold restS
    rw [lgetI_find, hx]
  rw [e]
  by_cases hp : bPa x = []
  · rw [if_pos (by simp [hp])]
    rw [← diskB_eq hr [] (fun h => absurd hp h) (fun _ => rfl)]
    unfold diskB
    simp only [hp, decide_true, if_true]
  · rw [if_neg (by simp [hp])]
    have h0 := par_there hI.toInvL hxm hp
    have hlt := fnd_lt L (bPa x)
    rw [restB_fuel hI.toInvL L.length (L.length + 1) (bPa x) (by omega) (by omega)]
    obtain ⟨y, hy⟩ := find_there h0
    refine diskB_eq hr _ (fun _ => ⟨(bSz y).toNat, ?_⟩) (fun h => absurd h hp)
    show (restL L (bPa x)).length = _
    rw [restL_length hI.toInvL hy, hI.bits x hxm hp y hy]
    have h1 := rBits_le hr
    have h2 := (rightB_small (hI.right y (List.mem_of_find?_eq_some hy))).2.2.1
    obtain ⟨s, hs⟩ : ∃ s : Nat, bSz y = s := ⟨(bSz y).toNat, by omega⟩
    obtain ⟨n, hn⟩ : ∃ n : Nat, clB (bBits x) = n := ⟨(clB (bBits x)).toNat, by omega⟩
    rw [hs, hn, ← Int.natCast_mul]
    rfl

/-! ### the walk -/
def vRestR (out : List UInt8) (e : Int) : SV := .tup [.one (.d (.str out)), .one (.d (.int .i64 e))]
def cluSR (c : Nat) (x : List UInt8) (p : RPie) : List UInt8 := if rC p = c then rB p else x
theorem cluSR_pos {c : Nat} {x : List UInt8} {p : RPie} (h : decide (rC p = (c : Int)) = true) : cluSR c x p = rB p := if_pos (of_decide_eq_true h)
theorem cluSR_neg {c : Nat} {x : List UInt8} {p : RPie} (h : decide (rC p = (c : Int)) = false) : cluSR c x p = x := if_neg (of_decide_eq_false h)
theorem clu_map (n : Nat) (below : List UInt8) (l : List RPie) (c : Nat) : clu n below (l.map pieOf) c = l.foldl (cluSR c) (cluI n below c) := by
  unfold clu
  rw [List.foldl_map]
  rfl
@[reducible] def reK (r : List RBup) (k n : Nat) (below : List UInt8) (c : Nat) (out : List UInt8) : KL := [(0, vL uRB r), (6, vI (k : Nat)), (7, vS below), (10, vI (n : Nat)), (11, vS out), (12, vI (c : Nat))]
set_option maxRecDepth 100000 in
set_option maxHeartbeats 4000000 in
theorem restoreR_step (r : List RBup) (nm : List UInt8) (hI : InvP (r.map ownOf))
    (ih : ∀ b, (r.map ownOf).find? (fun y => decide (bNm y = nm)) = some b → bPa b ≠ [] → Fn Try.prog 25 [vL uRB r, vS (bPa b)] [] [] (vRestR (restL (r.map ownOf) (bPa b)) (restE (r.map ownOf) (bPa b))) []) :
    Fn Try.prog 25 [vL uRB r, vS nm] [] [] (vRestR (restL (r.map ownOf) nm) (restE (r.map ownOf) nm)) [] := by
  have hlen := hI.len
  rw [List.length_map] at hlen
  have hfind := findR_spec r nm (by omega)
  rcases ixL_cases (fun b => decide (bNm b = nm)) (r.map ownOf) with ⟨h, _⟩ | ⟨k, x, h, hx, hxn, hlt⟩
  · have hf : fnd (r.map ownOf) nm = -1 := h
    have h1 : restE (r.map ownOf) nm = 181 := by unfold restE; rw [if_pos (by simp [hf])]
    have h2 : restL (r.map ownOf) nm = [] := by
      show restS (r.map ownOf) nm _ = []
      unfold restS lgetI
      rw [if_neg (by omega)]
    rw [h1, h2]
    rw [hf] at hfind
    refine Fn.of tblOK [] _ _ _ _ _ Try.func25 rfl rfl (by kernel_rfl) (by kernel_rfl) rfl (drawOK tblOK) rfl ?_
    refine ⟨_, _, _, _, hfind, trivial, rfl, ?_⟩
    refine ⟨fun h => ?_, fun h => absurd h (by decide)⟩
    exact ⟨_, _, _, Le.refl _ _, rfl, ⟨rfl, rfl, trivial⟩, trivial, rfl⟩
  · have hf : fnd (r.map ownOf) nm = k := h
    have hk : k < r.length := by have := (List.getElem?_eq_some_iff.1 hx).1; rwa [List.length_map] at this
    have hxk : x = ownOf r[k] := by
      rw [List.getElem?_map, List.getElem?_eq_getElem hk] at hx
      injection hx with hx
      exact hx.symm
    have hfd : (r.map ownOf).find? (fun y => decide (bNm y = nm)) = some x := by
      rw [← lgetI_find]
      unfold lgetI
      rw [if_pos (by omega), hf]
      exact hx
    have hE : restE (r.map ownOf) nm = 0 := by unfold restE; rw [if_neg (by simp; omega)]
    have hL := restL_eq hI hfd
    have hr := hI.right x (List.mem_of_getElem? hx)
    have hi := ih x hfd
    obtain ⟨q1, q2, q3, q4⟩ := rightB_small hr
    have hcl := rBits_le hr
    have hpcs := right_pieces hr
    have hpl := right_few hr
    obtain ⟨n, hn⟩ : ∃ n : Nat, clB (bBits x) = n := ⟨(clB (bBits x)).toNat, by omega⟩
    have hn2 : (clB (bBits x)).toNat = n := by omega
    rw [hE, hL, hn2]
    have hgk := lget_at (L := r) (n := (k : Nat)) rfl hk
    have hil : ∀ y : Bup, (r.map ownOf).find? (fun z => decide (bNm z = bPa x)) = some y → (restL (r.map ownOf) (bPa x)).length ≤ 32768 := fun y hy => by
      rw [restL_length hI.toInvL hy]
      have hr' := hI.right y (List.mem_of_find?_eq_some hy)
      have a1 := rBits_le hr'
      obtain ⟨_, _, a2, a3⟩ := rightB_small hr'
      have : bSz y * clB (bBits y) ≤ 256 * 128 := Int.mul_le_mul a3 a1.2 (by omega) (by omega)
      omega
    have hpar := fun h => par_there hI.toInvL (List.mem_of_getElem? hx) h
    rw [hf] at hfind
    clear hE hL ih h
    subst hxk
    have hil2 : bPa (ownOf r[k]) ≠ [] → (restL (r.map ownOf) (bPa (ownOf r[k]))).length ≤ 32768 := fun h => by
      obtain ⟨y, hy⟩ := find_there (hpar h)
      exact hil y hy
    have hlen2 : (rPc r[k]).length ≤ 256 := by
      have : ((rPc r[k]).map pieOf).length ≤ 256 := hpl
      rwa [List.length_map] at this
    have hSz : ∃ S : Nat, rSz r[k] = S ∧ S ≤ 256 ∧ (bSz (ownOf r[k])).toNat = S := ⟨(rSz r[k]).toNat, by
      have q3 : 0 ≤ rSz r[k] := q3
      omega, by
      have q4 : rSz r[k] ≤ 256 := q4
      omega, rfl⟩
    obtain ⟨S, hS, hS2, hS3⟩ := hSz
    rw [hS3]
    have hn3 : clB (rBits r[k]) = n := hn
    have hmany := many_spec (rBits r[k]) q1 q2
    rw [hn3] at hmany
    have hpb : ∀ p, p ∈ rPc r[k] → (rB p).length = n := fun p hp => by
      have h : ((rB p).length : Int) = clB (rBits r[k]) := (hpcs (pieOf p) (List.mem_map_of_mem hp)).2.2
      omega
    have hn16 : 16 ≤ n ∧ n ≤ 128 := by omega
    have hpc : bPc (ownOf r[k]) = (rPc r[k]).map pieOf := rfl
    rw [hpc]
    have hpa : bPa (ownOf r[k]) = rPa r[k] := rfl
    rw [hpa] at hi hil2 ⊢
    have hpE : rPa r[k] ≠ [] → restE (r.map ownOf) (rPa r[k]) = 0 := fun h => restE_there (hpar h)
    generalize restL (r.map ownOf) (rPa r[k]) = bl at *
    clear hx hxn hlt hfd hr hpcs hpl hil hpar hcl hn2 hS3 hpc hpa q1 q2 q3 q4 hn hI
    generalize hbe : (if decide (rPa r[k] = []) = true then ([] : List UInt8) else bl) = be
    refine Fn.of tblOK [] _ _ _ _ _ Try.func25 rfl rfl (by kernel_rfl) (by kernel_rfl) rfl (drawOK tblOK) rfl ?_
    refine ⟨_, _, _, _, hfind, trivial, rfl, ?_⟩
    refine ⟨fun h => absurd (of_decide_eq_true h) (by omega), fun h => ?_⟩
    refine ⟨by omega, r[k], hgk, ?_⟩
    refine ⟨fun h4 => ?a, fun h4 => ?b⟩
    case' a =>
      have hpn : rPa r[k] ≠ [] := by
        have h4 : (!decide (rPa r[k] = [])) = true := h4
        simpa using h4
      refine ⟨by omega, r[k], hgk, ?_⟩
      have hi2 := hi hpn
      rw [hpE hpn] at hi2
      refine ⟨_, _, _, _, hi2, trivial, rfl, ?_⟩
      rw [if_neg (by simp [hpn])] at hbe
      have hbl : be.length ≤ 32768 := by rw [← hbe]; exact hil2 hpn
    case' b =>
      have hpn : rPa r[k] = [] := by
        have h4 : (!decide (rPa r[k] = [])) = false := h4
        simpa using h4
      rw [if_pos (by simp [hpn])] at hbe
      have hbl : be.length ≤ 32768 := by rw [← hbe]; decide
    all_goals
      refine ⟨by omega, r[k], hgk, ?_⟩
      refine ⟨_, _, _, _, hmany, trivial, rfl, ?_⟩
      show TrQ _ _ _ _ _ _ _
      refine TrQ.loop tblOK (drawOK tblOK) [] (by kernel_rfl) (X := Nat) (fun c => reK r k n be c ((List.range c).flatMap (clu n be ((rPc r[k]).map pieOf)))) (fun _ => []) (fun c => c ≤ S) (fun c => S - c) 0 (Nat.zero_le _) ?_ ?_
      · exact Le.sub ⟨rfl, rfl, hbe, rfl, rfl, rfl, trivial⟩ trivial
      intro c hc
      have hcl : ∀ c, (clu n be ((rPc r[k]).map pieOf) c).length = n := fun c => clu_length c _ _ (cluI_length n be c) fun p hp => by
        obtain ⟨q, hq, rfl⟩ := List.mem_map.1 hp
        exact hpb q hq
      have hout := flat_length hcl c
      have hout2 : c * n ≤ 256 * 128 := Nat.mul_le_mul (by omega) hn16.2
      refine ⟨by omega, r[k], hgk, ?_⟩
      refine ⟨fun h => ?_, fun h => ?_⟩
      · have hc1 : c < S := by
          have h : (c : Int) < rSz r[k] := of_decide_eq_true h
          omega
        have hm1 : (n : Int) * (c : Int) = ((n * c : Nat) : Int) := (Int.natCast_mul n c).symm
        have hm2 : n * c ≤ 128 * 256 := Nat.mul_le_mul hn16.2 (by omega)
        have m0 : (n : Int) = n ∧ 0 ≤ (n : Int) ∧ (n : Int) ≤ 4294967296 := by omega
        have m1 : -9223372036854775808 ≤ (n : Int) * (c : Int) ∧ (n : Int) * (c : Int) ≤ 9223372036854775807 := by omega
        have m2 : -9223372036854775808 ≤ (n : Int) * (c : Int) + (n : Int) ∧ (n : Int) * (c : Int) + (n : Int) ≤ 9223372036854775807 := by omega
        refine ⟨m0, rfl, m1, m2, ?_⟩
        refine ⟨fun h => ?_, fun h => ?_⟩
        focus
          have hle : n * c + n ≤ be.length := by
            have h : (n : Int) * (c : Int) + (n : Int) ≤ (be.length : Int) := of_decide_eq_true h
            omega
          have hI0 : cluI n be c = (be.take ((n : Int) * (c : Int) + (n : Int)).toNat).drop ((n : Int) * (c : Int)).toNat := by
            unfold cluI
            rw [if_pos hle, hm1, ← Int.natCast_add, Int.toNat_natCast, Int.toNat_natCast]
          have m3 : 0 ≤ (n : Int) * (c : Int) ∧ (n : Int) * (c : Int) ≤ (n : Int) * (c : Int) + (n : Int) ∧ (n : Int) * (c : Int) + (n : Int) ≤ (be.length : Int) := by omega
          refine ⟨m1, m1, m2, m3, ?_⟩
        rotate_left
        focus
          have hI0 : cluI n be c = List.replicate (n : Int).toNat 0 := by
            have h : ¬ (n : Int) * (c : Int) + (n : Int) ≤ (be.length : Int) := of_decide_eq_false h
            unfold cluI
            rw [if_neg (by omega), Int.toNat_natCast]
        all_goals
          show TrQ _ _ _ _ _ _ _
          refine TrQ.loop tblOK (drawOK tblOK) [] (by kernel_rfl) (X := Nat) (fun i => (13, vS (((rPc r[k]).take i).foldl (cluSR c) (cluI n be c))) :: (14, vI (i : Nat)) :: reK r k n be c ((List.range c).flatMap (clu n be ((rPc r[k]).map pieOf)))) (fun _ => []) (fun i => i ≤ (rPc r[k]).length) (fun i => (rPc r[k]).length - i) 0 (Nat.zero_le _) ?_ ?_
          · exact Le.sub ⟨hI0.symm, rfl, rfl, rfl, rfl, rfl, rfl, rfl, trivial⟩ trivial
          intro i hi
          refine ⟨by omega, r[k], hgk, ?_⟩
          refine ⟨fun h => ?_, fun h => ?_⟩
          · have hi1 : i < (rPc r[k]).length := by
              have h : (i : Int) < ((rPc r[k]).length : Int) := of_decide_eq_true h
              omega
            have hs := foldl_step (cluSR c) (cluI n be c) hi1
            refine ⟨by omega, r[k], hgk, by omega, (rPc r[k])[i], lget_at rfl hi1, ?_⟩
            refine ⟨fun h => ?_, fun h => ?_⟩
            · refine ⟨by omega, r[k], hgk, by omega, (rPc r[k])[i], lget_at rfl hi1, ?_⟩
              refine ⟨by omega, i + 1, hi1, by omega, ?_⟩
              rw [hs, cluSR_pos h]
              exact Le.sub ⟨rfl, rfl, rfl, rfl, rfl, rfl, rfl, rfl, trivial⟩ trivial
            · refine ⟨by omega, i + 1, hi1, by omega, ?_⟩
              rw [hs, cluSR_neg h]
              exact Le.sub ⟨rfl, rfl, rfl, rfl, rfl, rfl, rfl, rfl, trivial⟩ trivial
          · have hi1 : i = (rPc r[k]).length := by
              have h : ¬ (i : Int) < ((rPc r[k]).length : Int) := of_decide_eq_false h
              omega
            subst hi1
            rw [List.take_length, ← clu_map]
            have hadd : ((List.range c).flatMap (clu n be ((rPc r[k]).map pieOf))).length + (clu n be ((rPc r[k]).map pieOf) c).length ≤ 4294967296 := by rw [hout, hcl]; omega
            refine ⟨hadd, ?_⟩
            refine ⟨by omega, c + 1, hc1, by omega, ?_⟩
            rw [List.range_succ, List.flatMap_append]
            refine Le.sub ⟨rfl, rfl, rfl, rfl, ?_, rfl, trivial⟩ trivial
            show _ = _
            simp
      · have hc1 : c = S := by
          have h : ¬ (c : Int) < rSz r[k] := of_decide_eq_false h
          omega
        subst hc1
        exact ⟨_, _, _, Le.refl _ _, rfl, ⟨rfl, rfl, trivial⟩, trivial, rfl⟩
theorem restoreR_fuel {r : List RBup} (hI : InvP (r.map ownOf)) : ∀ (n : Nat) (nm : List UInt8), fnd (r.map ownOf) nm < n → Fn Try.prog 25 [vL uRB r, vS nm] [] [] (vRestR (restL (r.map ownOf) nm) (restE (r.map ownOf) nm)) [] := by
  intro n
  induction n with
  | zero =>
    intro nm h
    refine restoreR_step r nm hI fun b hb => ?_
    rw [(fnd_neg_iff _ _).1 (by omega)] at hb
    cases hb
  | succ n ih =>
    intro nm h
    refine restoreR_step r nm hI fun b hb hp => ih (bPa b) ?_
    rw [← lgetI_find] at hb
    obtain ⟨k, hk, hb⟩ := lgetI_some hb
    have := (hI.par k b hb (by simpa using hp)).2
    omega
theorem restoreR_spec {r : List RBup} (hI : InvP (r.map ownOf)) (nm : List UInt8) : Fn Try.prog 25 [vL uRB r, vS nm] [] [] (vRestR (restL (r.map ownOf) nm) (restE (r.map ownOf) nm)) [] :=
  restoreR_fuel hI _ nm (fnd_lt (r.map ownOf) nm)
end Go.Proofs.Ythghcdddambaeaa
