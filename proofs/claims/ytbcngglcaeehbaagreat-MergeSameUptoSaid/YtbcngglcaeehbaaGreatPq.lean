/-
  Pulls, in plain words: a job goes on, and ends.
-/
import Derived.Test.YtbcngglcaeehbaaGreatPp
set_option linter.unusedVariables false
set_option linter.unusedSimpArgs false
set_option maxRecDepth 10000
namespace Go.Proofs.YtbcngglcaeehbaaGreat
open Go.RowKit Go.Proofs
section
variable {bits room : Nat} {L : List Dsk} {top base : List UInt8}
theorem dn_up {kb kt : Nat} (hD : Dn L base kb) (hT : Dn L top kt) (hlt : base = [] ∨ kb < kt) (h1 : top ≠ base) (h2 : top ∉ bl L kb base) {n : List UInt8} {j : Nat} (h : Dn L n j) : ∃ i, i ≤ j ∧ Dn (lset L top base) n i := by
  have hoff : Dn (lset L top base) base kb := dn_lset_off hD (Ne.symm h1) h2
  have hself : ∀ d, dk L top = some d → ∀ {j}, Dn L top j → ∃ i, i ≤ j ∧ Dn (lset L top base) top i := fun d hd j hj => by
    have e : dk (lset L top base) top = some (rbD top base d) := by rw [dk_lset, hd]; rfl
    have eb := rbD_back (back := base) (dk_get hd).2
    have ej := dn_det hj hT
    by_cases hb : base = []
    · exact ⟨0, Nat.zero_le _, .base e (by rw [eb]; exact hb)⟩
    · exact ⟨kb + 1, by have := hlt.resolve_left hb; omega, .step e (by rw [eb]; exact hb) (by rw [eb]; exact hoff)⟩
  induction h with
  | gone h => exact ⟨0, Nat.zero_le _, .gone (by rw [dk_lset, h]; rfl)⟩
  | @base n d g1 g2 =>
    have e := (dk_get g1).2
    by_cases c : n = top
    · subst c
      exact hself d g1 (.base g1 g2)
    · exact ⟨0, Nat.zero_le _, .base (d := d) (by rw [dk_lset, g1]; show some (rbD top base d) = _; rw [rbD_back_ne (by rw [e]; exact c)]) g2⟩
  | @step n d j g1 g2 g3 ih =>
    have e := (dk_get g1).2
    by_cases c : n = top
    · subst c
      exact hself d g1 (.step g1 g2 g3)
    · obtain ⟨i, hi, hd⟩ := ih
      exact ⟨i + 1, by omega, .step (d := d) (by rw [dk_lset, g1]; show some (rbD top base d) = _; rw [rbD_back_ne (by rw [e]; exact c)]) g2 hd⟩
theorem nil_none (h : CS bits room L) : dk L [] = none := by
  cases x : dk L [] with
  | none => rfl
  | some y => exact absurd rfl (known_ne h ⟨y, x⟩)
/-- Who stands on the base, however deep, can stand on it. -/
theorem rb_ok (h : CS bits room L) {d : Dsk} (hd : dk L top = some d) (hi : btI L top base = true) : rbC L top base = ⟨0, lset L top base⟩ := by
  obtain ⟨g1, g2, g3⟩ := bt_split h hd hi
  have hT := (h.dep top).1
  have hD := (h.dep base).1
  have hlt : base = [] ∨ dpt L base < dpt L top := by
    by_cases e : base = []
    · exact .inl e
    · rw [if_neg e] at g3
      exact .inr (by omega)
  have h1 : top ≠ base := fun e => by
    rcases hlt with hb | hb
    · exact known_ne h ⟨d, hd⟩ (e.trans hb)
    · rw [e] at hb
      omega
  have h2 : top ∉ bl L (dpt L base) base := fun hm => by
    rcases hlt with hb | hb
    · rw [hb, show dpt L [] = 0 from dpt_of (.gone (nil_none h)) (by omega)] at hm
      cases hm
    · obtain ⟨j, hj, h3⟩ := bl_mem hD top hm
      have := dn_det h3 hT
      omega
  unfold rbC
  rw [if_neg, if_neg, if_pos]
  · intro n hn
    obtain ⟨i, hi, hdn⟩ := dn_up hD hT hlt h1 h2 (h.dep n).1
    have := (h.dep n).2
    rw [dpt_of hdn (by omega)]
    omega
  · exact fun x => x.elim h1 h2
  · rintro (x | x)
    · rw [hd] at x; cases x
    · rw [Bool.or_eq_false_iff] at x
      rcases g2 with e | ⟨e, he⟩
      · exact (of_decide_eq_false x.1) e
      · rw [he] at x; cases x.2
theorem pnx_some {k : Nat} (h : pnx L top base = some k) : btI L top base = true ∧ k < szOf L top ∧ pnxP L top base k = true ∧ ∀ j, j < k → pnxP L top base j = false := by
  unfold pnx at h
  split at h
  · rename_i hb
    obtain ⟨g1, g2, g3⟩ := List.find?_range_eq_some.1 h
    exact ⟨hb, List.mem_range.1 g2, g1, fun j hj => by simpa using g3 j hj⟩
  · cases h
theorem pnx_none (hb : btI L top base = true) (h : pnx L top base = none) : ∀ k, k < szOf L top → pnxP L top base k = false := by
  unfold pnx at h
  rw [if_pos hb] at h
  intro k hk
  simpa using List.find?_range_eq_none.1 h k hk
theorem pnx_none_of (h : ∀ k, k < szOf L top → pnxP L top base k = false) : pnx L top base = none := by
  unfold pnx
  split
  · exact List.find?_range_eq_none.2 fun k hk => by simp [h k hk]
  · rfl
theorem bt_lim (h : CS bits room L) {t : List UInt8} {d : Dsk} {im : ImS} (hd : dk L t = some d) (hs : Like d.im im) : btL (lim L t im none) top base = btL L top base ∧ btI (lim L t im none) top base = btI L top base := by
  unfold btL btI
  rw [dpt_lim h t im none top, bl_lim, (szOf_lim L hd hs).2]
  exact ⟨rfl, rfl⟩
/-- Behind a step that brings a cluster. -/
theorem pull_step (h : CS bits room L) {d : Dsk} (hd : dk L top = some d) {k : Nat} (hk : k < d.im.t.length) (hz : d.im.t.length < room) :
    ∃ L', wrC bits L top ((k * 2 ^ bits : Nat) : Int) (clC bits L top (k : Int)) = ⟨0, L'⟩ ∧ CS bits room L' ∧ (∃ d', dk L' top = some d' ∧ d'.am = d.am ∧ d'.im.t.length = d.im.t.length ∧ (d'.im.t.getD k s0).1 = 1) ∧ btL L' top base = btL L top base ∧ btI L' top base = btI L top base ∧
      (∀ j, j ≠ k → pnxP L' top base j = pnxP L top base j) ∧ pnxP L' top base k = false ∧ allC bits L' top = allC bits L top := by
  have hcl : clC bits L top (k : Int) = cseen bits L top (dpt L top) k := by
    unfold clC
    rw [hd]
    simp only
    rw [if_pos ⟨by omega, by omega⟩]
    rfl
  have hlen : (cseen bits L top (dpt L top) k).length = 16 * 2 ^ bits := cseen_len h.toChOK hd (h.dep top).1 k
  obtain ⟨hO, hbt, hrm⟩ := h.ims d (dk_get hd).1
  have hzz : 0 < zeros d.im.l := by have := used_le hO; omega
  have he := wr_ok h hd hk hlen hzz
  have hself := wr_self h hd hk
  have hcs := wrC_cs h top ((k * 2 ^ bits : Nat) : Int) (clC bits L top (k : Int))
  rw [← hcl] at he
  obtain ⟨d', im, hd', hs, hL, hkind⟩ := wr_kind h he
  rw [hd] at hd'
  injection hd' with hd'
  subst hd'
  have hp := pow_le8 h.b3
  have hkd : ∀ c, (im.t.getD c s0).1 = if c = k then 1 else (d.im.t.getD c s0).1 := fun c => by
    rw [hkind c, hcl, hlen, show 16 * 2 ^ bits / 16 = 2 ^ bits by omega]
    show (if 0 < 2 ^ bits ∧ 16 * (k * 2 ^ bits) < (c + 1) * (16 * 2 ^ bits) ∧ c * (16 * 2 ^ bits) < 16 * (k * 2 ^ bits + 2 ^ bits) then _ else _) = _
    have e1 : 16 * (k * 2 ^ bits) = k * (16 * 2 ^ bits) := Nat.mul_left_comm ..
    have e3 : (k + 1) * (16 * 2 ^ bits) = k * (16 * 2 ^ bits) + 16 * 2 ^ bits := Nat.succ_mul ..
    have e2 : 16 * (k * 2 ^ bits + 2 ^ bits) = (k + 1) * (16 * 2 ^ bits) := by rw [e3, ← e1]; omega
    have hW : 0 < 16 * 2 ^ bits := by omega
    by_cases c1 : c = k
    · subst c1
      rw [if_pos rfl, if_pos ⟨by omega, by rw [e1]; exact Nat.mul_lt_mul_of_pos_right (Nat.lt_succ_self c) hW, by rw [e2]; exact Nat.mul_lt_mul_of_pos_right (Nat.lt_succ_self c) hW⟩]
    · rw [if_neg c1, if_neg]
      rintro ⟨_, g1, g2⟩
      rw [e1] at g1
      rw [e2] at g2
      have g1 := Nat.lt_of_mul_lt_mul_right g1
      have g2 := Nat.lt_of_mul_lt_mul_right g2
      omega
  obtain ⟨b1, b2⟩ := bt_lim (top := top) (base := base) h hd hs
  have hw : wrC bits L top ((k * 2 ^ bits : Nat) : Int) (clC bits L top (k : Int)) = ⟨0, lim L top im none⟩ := by
    rw [← hL, ← he]
  rw [hw] at hself hcs
  have hp1 : ∀ j, pnxP (lim L top im none) top base j = (hol (lim L top im none) top j && (btL L top base).any fun n => !hol L n j) := fun j => by
    unfold pnxP
    rw [b1]
    congr 1
    rw [Bool.eq_iff_iff, List.any_eq_true, List.any_eq_true]
    have hh : ∀ n, n ∈ btL L top base → hol (lim L top im none) n j = hol L n j := fun n hn => by
      unfold hol
      rw [dk_lim_ne (bt_known h hd n hn).1]
    constructor
    · rintro ⟨n, hn, hx⟩
      exact ⟨n, hn, by rw [← hh n hn]; exact hx⟩
    · rintro ⟨n, hn, hx⟩
      exact ⟨n, hn, by rw [hh n hn]; exact hx⟩
  have hp2 : ∀ j, hol (lim L top im none) top j = if j = k then false else hol L top j := fun j => by
    unfold hol
    rw [dk_lim_self hd, hd]
    show (decide (im.t.length ≤ j) || decide ((im.t.getD j s0).1 = 0)) = _
    rw [hkd, hs.tl]
    by_cases c : j = k
    · rw [if_pos c, if_pos c, decide_eq_false (by omega)]
      rfl
    · rw [if_neg c, if_neg c]
  refine ⟨lim L top im none, hw, hcs, ⟨_, dk_lim_self hd im none, rfl, hs.tl, ?_⟩, b1, b2, fun j hj => ?_, ?_, hself⟩
  · show (im.t.getD k s0).1 = 1
    rw [hkd, if_pos rfl]
  · rw [hp1, hp2, if_neg hj]
    rfl
  · rw [hp1, hp2, if_pos rfl]
    rfl
end
end Go.Proofs.YtbcngglcaeehbaaGreat
