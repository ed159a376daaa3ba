/-
  Pulls, in plain words: what is between, the next cluster, a step; what a step leaves.
-/
import Derived.Test.YtolaecebfkdbcaaGreatSe
set_option linter.unusedVariables false
set_option linter.unusedSimpArgs false
set_option maxRecDepth 10000
namespace Go.Proofs.YtolaecebfkdbcaaGreat
open Go.RowKit Go.Proofs
/-! ### room: each cluster that is in use stands in one place of the table -/
theorem nodup_lt : ∀ (n : Nat) (l : List Nat), l.Nodup → (∀ x, x ∈ l → x < n) → l.length ≤ n
  | 0, [], _, _ => Nat.le_refl _
  | 0, x :: l, _, h => absurd (h x (List.mem_cons_self ..)) (Nat.not_lt_zero x)
  | n + 1, l, hn, h => by
    have h1 : (l.erase n).Nodup := hn.erase n
    have h2 := nodup_lt n (l.erase n) h1 fun x hx => by
      have hx2 := (hn.mem_erase_iff).1 hx
      have := h x hx2.2
      have := hx2.1
      omega
    have h3 : l.length ≤ (l.erase n).length + 1 := by
      rw [List.length_erase]
      split <;> omega
    omega
theorem nodup_map {α β : Type} {f : α → β} : ∀ {l : List α}, (∀ x, x ∈ l → ∀ y, y ∈ l → f x = f y → x = y) → l.Nodup → (l.map f).Nodup
  | [], _, _ => List.nodup_nil
  | a :: l, hi, hn => by
    obtain ⟨n1, n2⟩ := List.nodup_cons.1 hn
    rw [List.map_cons]
    refine List.nodup_cons.2 ⟨fun hm => ?_, nodup_map (fun x hx y hy => hi x (List.mem_cons_of_mem _ hx) y (List.mem_cons_of_mem _ hy)) n2⟩
    obtain ⟨y, hy, e⟩ := List.mem_map.1 hm
    have := hi y (List.mem_cons_of_mem _ hy) a (List.mem_cons_self ..) e
    exact n1 (this ▸ hy)
theorem range_map_get (l : List Int) : (List.range l.length).map (fun h => l.getD h 0) = l := by
  refine List.ext_getElem? fun i => ?_
  rw [List.getElem?_map]
  by_cases hi : i < l.length
  · rw [List.getElem?_range hi, List.getElem?_eq_getElem hi]
    show some (l.getD i 0) = _
    rw [List.getD_eq_getElem?_getD, List.getElem?_eq_getElem hi]
    rfl
  · rw [List.getElem?_eq_none (by simpa using hi), List.getElem?_eq_none (by omega)]
    rfl
theorem zeros_split (l : List Int) : l.length = zeros l + (l.filter fun x => !decide (x = 0)).length := by
  unfold zeros
  induction l with
  | nil => rfl
  | cons x l ih =>
    rw [List.filter_cons, List.filter_cons, List.length_cons]
    by_cases h : x = 0
    · rw [if_pos (decide_eq_true h), if_neg (by simp [h]), List.length_cons]
      omega
    · rw [if_neg (by simp [h]), if_pos (by simp [h]), List.length_cons]
      omega
theorem used_le {s : ImS} (hO : ImOK s) : s.l.length ≤ zeros s.l + s.t.length := by
  have h1 := zeros_split s.l
  have hu : ∀ h : Nat, s.l[h]? = some 1 → ∃ c : Nat, s.t[c]? = some ((1 : Int), (h : Int), true) := hO.used
  let N := (List.range s.l.length).filter fun h => !decide (s.l.getD h 0 = 0)
  have e : (s.l.filter fun x => !decide (x = 0)).length = N.length := by
    conv => lhs; rw [← range_map_get s.l]
    rw [List.filter_map, List.length_map]
    rfl
  have hN : ∀ h, h ∈ N → ∃ c : Nat, s.t[c]? = some ((1 : Int), (h : Int), true) := fun h hh => by
    obtain ⟨g1, g2⟩ := List.mem_filter.1 hh
    have g1 := List.mem_range.1 g1
    have g3 : s.l[h]? = some s.l[h] := List.getElem?_eq_getElem g1
    have g4 := hO.cnt h _ g3
    have g5 : ¬ s.l.getD h 0 = 0 := by simpa using g2
    rw [List.getD_eq_getElem?_getD, g3] at g5
    have g5 : ¬ s.l[h] = 0 := g5
    exact hu h (by rw [g3, g4.resolve_left g5])
  let f : Nat → Nat := fun h => Classical.epsilon fun c : Nat => s.t[c]? = some ((1 : Int), (h : Int), true)
  have hf : ∀ h, h ∈ N → s.t[f h]? = some ((1 : Int), (h : Int), true) := fun h hh => Classical.epsilon_spec (hN h hh)
  have hnd : (N.map f).Nodup := nodup_map (fun x hx y hy exy => by
    have h1 := hf x hx
    have h2 := hf y hy
    rw [exy, h2] at h1
    injection h1 with h1
    have := congrArg (fun q : Slt => q.2.1) h1
    have : ((y : Nat) : Int) = (x : Int) := this
    omega) (List.nodup_range.filter _)
  have := nodup_lt s.t.length (N.map f) hnd fun x hx => by
    obtain ⟨h, hh, rfl⟩ := List.mem_map.1 hx
    exact (List.getElem?_eq_some_iff.1 (hf h hh)).1
  rw [List.length_map] at this
  omega
/-! ### one cluster is written -/
theorem pcN_one {W k b : Nat} (hb : b ≤ 3) (hW : W = 16 * 2 ^ b) : pcN W (k * 2 ^ b) (2 ^ b) ≤ 1 := by
  have hp := pow_le8 hb
  have hw : isW W := by
    rw [hW]
    match b, hb with
    | 0, _ => exact .inl rfl
    | 1, _ => exact .inr (.inl rfl)
    | 2, _ => exact .inr (.inr (.inl rfl))
    | 3, _ => exact .inr (.inr (.inr rfl))
  refine Nat.le_of_not_lt fun h => ?_
  have h2 := ((pcN_iff hw (a := k * 2 ^ b) (l := 2 ^ b) (k := 1)).2 h).2
  have e : 16 * (k * 2 ^ b) / W = k := by
    rw [hW, show 16 * (k * 2 ^ b) = k * (16 * 2 ^ b) from Nat.mul_left_comm .., Nat.mul_div_cancel _ (by omega)]
  rw [e, hW, Nat.succ_mul, show k * (16 * 2 ^ b) = 16 * (k * 2 ^ b) from Nat.mul_left_comm ..] at h2
  omega
section
variable {bits room : Nat} {L : List Dsk} {nm : List UInt8}
theorem wrC_err {a : Int} {bs : List UInt8} (h : CS bits room L) (he : (wrC bits L nm a bs).e ≠ 0) : (wrC bits L nm a bs).L = L := by
  unfold wrC at he ⊢
  cases h0 : dk L nm with
  | none => rfl
  | some d =>
    rw [h0] at he
    simp only at he ⊢
    split at he
    · rename_i h1; rw [if_pos h1]
    · rename_i h1
      rw [if_neg h1]
      split at he
      · rename_i h2; rw [if_pos h2]
      · rename_i h2
        rw [if_neg h2]
        have he : iwE d.im a.toNat (bs.length / 16) ≠ 0 := he
        unfold iwE at he
        split at he
        · exact absurd rfl he
        · rename_i h3
          show lim L nm (iwS d.im a.toNat (bs.length / 16) bs _) none = L
          unfold iwS
          rw [if_neg h3, lim_self h.nms h0 (h.unp d (dk_get h0).1)]
theorem zrC_err {a l : Int} (h : CS bits room L) (he : (zrC bits L nm a l).e ≠ 0) : (zrC bits L nm a l).L = L := by
  unfold zrC at he ⊢
  cases h0 : dk L nm with
  | none => rfl
  | some d =>
    rw [h0] at he
    simp only at he ⊢
    split at he
    · rename_i h2; rw [if_pos h2]
    · rename_i h2
      rw [if_neg h2]
      have he : izE d.im a.toNat l.toNat ≠ 0 := he
      unfold izE at he
      split at he
      · exact absurd rfl he
      · rename_i h3
        show lim L nm (izS d.im a.toNat l.toNat _) none = L
        unfold izS
        rw [if_neg h3, lim_self h.nms h0 (h.unp d (dk_get h0).1)]
theorem wr_ok (h : CS bits room L) {d : Dsk} (hd : dk L nm = some d) {k : Nat} (hk : k < d.im.t.length) {bs : List UInt8} (hb : bs.length = 16 * 2 ^ bits) (hz : 0 < zeros d.im.l) : (wrC bits L nm ((k * 2 ^ bits : Nat) : Int) bs).e = 0 := by
  obtain ⟨hO, hbt, _⟩ := h.ims d (dk_get hd).1
  have hp := pow_le8 h.b3
  have hin := clus_in hO hk
  rw [hbt] at hin
  unfold wrC
  rw [hd]
  simp only
  have e16 : bs.length / 16 = 2 ^ bits := by rw [hb]; omega
  rw [if_neg (by rw [hb]; omega), e16, if_neg (fun hh => hh hin)]
  show iwE d.im ((k * 2 ^ bits : Nat) : Int).toNat (2 ^ bits) = 0
  unfold iwE
  rw [if_pos]
  refine Nat.le_trans (ndK_le _ _ _ _) (Nat.le_trans ?_ hz)
  exact pcN_one h.b3 (wid_eq h hd)
/-- What a write makes of the kinds of clusters. -/
theorem wr_kind (h : CS bits room L) {a : Int} {bs : List UInt8} (he : (wrC bits L nm a bs).e = 0) : ∃ d im, dk L nm = some d ∧ Like d.im im ∧ (wrC bits L nm a bs).L = lim L nm im none ∧ ∀ c, (im.t.getD c s0).1 = if 0 < bs.length / 16 ∧ 16 * a.toNat < (c + 1) * (16 * 2 ^ bits) ∧ c * (16 * 2 ^ bits) < 16 * (a.toNat + bs.length / 16) then 1 else (d.im.t.getD c s0).1 := by
  obtain ⟨d, hd, hbl, ha, hin, hnd, hL⟩ := wrC_inv he
  obtain ⟨hO, hbt, _⟩ := h.ims d (dk_get hd).1
  have hall := iIns_all hin
  have hW := wid_isW hO.bits
  have hwi := wid_eq h hd
  generalize a.toNat = a0 at *
  have hI := (wrI hO hbl hall (belY bits L nm (dpt L nm)) hnd _ (Nat.le_refl _)).1
  refine ⟨d, _, hd, hI.like, hL, fun c => ?_⟩
  by_cases hl0 : 0 < bs.length / 16
  · by_cases hr : 16 * a0 / wid d.im ≤ c ∧ c < 16 * a0 / wid d.im + pcN (wid d.im) a0 (bs.length / 16)
    · have hin2 := (pc_range hW hl0).1 hr
      rw [hwi] at hin2
      rw [if_pos ⟨hl0, hin2⟩]
      have hdn := (hI.done (c - 16 * a0 / wid d.im) (by omega)).1
      rw [show 16 * a0 / wid d.im + (c - 16 * a0 / wid d.im) = c by omega] at hdn
      unfold iNeeds slWr at hdn
      simp only [Bool.not_eq_false', Bool.and_eq_true] at hdn
      exact of_decide_eq_true hdn.1
    · have hin2 := fun x => hr ((pc_range hW hl0).2 x)
      rw [hwi] at hin2
      rw [if_neg fun x => hin2 x.2]
      have hsm := (hI.far c (by omega)).1
      rw [List.getD_eq_getElem?_getD, List.getD_eq_getElem?_getD, hsm]
  · have hz : bs.length / 16 = 0 := by omega
    rw [if_neg fun x => hl0 x.1, hz]
    rfl
end
/-! ### the way down -/
theorem bl_get {L : List Dsk} {nm : List UInt8} {k : Nat} (h : Dn L nm k) {i : Nat} (hi : i < k) : (bl L k nm)[i]? = some (downTo L (i + 1) nm) := by
  have h1 := bl_take h i hi
  have h2 := bl_len h
  rw [List.take_add_one] at h1
  have h3 := List.append_cancel_left h1
  rw [List.getElem?_eq_getElem (by omega)] at h3 ⊢
  injection h3 with h3
  rw [h3]
theorem takeWhile_at {α : Type} (p : α → Bool) : ∀ (l : List α) (j : Nat), j ≤ l.length → (∀ i x, i < j → l[i]? = some x → p x = true) → (j = l.length ∨ ∃ x, l[j]? = some x ∧ p x = false) → l.takeWhile p = l.take j
  | [], j, hj, _, _ => by
    have : j = 0 := by simpa using hj
    subst this
    rfl
  | a :: l, 0, _, _, h => by
    rcases h with h | ⟨x, hx, hp⟩
    · cases h
    · injection hx with hx
      subst hx
      rw [List.takeWhile_cons, hp]
      rfl
  | a :: l, j + 1, hj, h1, h2 => by
    have ha := h1 0 a (Nat.succ_pos j) rfl
    rw [List.takeWhile_cons, ha]
    show a :: l.takeWhile p = a :: l.take j
    rw [takeWhile_at p l j (by simpa using hj) (fun i x hi hx => h1 (i + 1) x (by omega) hx) (h2.imp (fun e => by simpa using e) id)]
def btL (L : List Dsk) (top base : List UInt8) : List (List UInt8) := (bl L (dpt L top) top).takeWhile fun n => !decide (n = base)
def btI (L : List Dsk) (top base : List UInt8) : Bool := (dk L top).isSome && (decide (base = []) || decide (base ∈ bl L (dpt L top) top))
def hol (L : List Dsk) (n : List UInt8) (k : Nat) : Bool := match dk L n with
  | none => true
  | some d => decide (d.im.t.length ≤ k) || decide ((d.im.t.getD k s0).1 = 0)
def pnxP (L : List Dsk) (top base : List UInt8) (k : Nat) : Bool := hol L top k && (btL L top base).any fun n => !hol L n k
def szOf (L : List Dsk) (nm : List UInt8) : Nat := match dk L nm with
  | none => 0
  | some d => d.im.t.length
def pnx (L : List Dsk) (top base : List UInt8) : Option Nat := if btI L top base = true then (List.range (szOf L top)).find? (pnxP L top base) else none
structure PR where
  done : Bool
  e : Int
  L : List Dsk
  over : Bool
def pstep (bits : Nat) (L : List Dsk) (top base : List UInt8) (over : Bool) : PR := if (over || !(dk L top).isSome) = true then ⟨false, 160, L, over⟩ else match pnx L top base with
  | some k => ⟨false, (wrC bits L top ((k * 2 ^ bits : Nat) : Int) (clC bits L top (k : Int))).e, (wrC bits L top ((k * 2 ^ bits : Nat) : Int) (clC bits L top (k : Int))).L, over⟩
  | none => ⟨decide ((rbC L top base).e = 0), (rbC L top base).e, (rbC L top base).L, decide ((rbC L top base).e = 0)⟩
/-- All that a disk reads. -/
def allC (bits : Nat) (L : List Dsk) (nm : List UInt8) : List UInt8 := match dk L nm with
  | none => []
  | some d => crdK bits L nm (dpt L nm) 0 (d.im.t.length * 2 ^ bits)
theorem allC_congr {bits : Nat} {L L' : List Dsk} {nm : List UInt8} (hs : szOf L' nm = szOf L nm) (hk : (dk L' nm).isSome = (dk L nm).isSome) (h : ∀ s, s < szOf L nm * 2 ^ bits → crdP bits L' nm (dpt L' nm) s = crdP bits L nm (dpt L nm) s) : allC bits L' nm = allC bits L nm := by
  unfold allC
  unfold szOf at hs h
  cases e : dk L nm with
  | none =>
    rw [e] at hk
    cases e' : dk L' nm with
    | none => rfl
    | some d' => rw [e'] at hk; cases hk
  | some d =>
    rw [e] at hk hs h
    cases e' : dk L' nm with
    | none => rw [e'] at hk; cases hk
    | some d' =>
      rw [e'] at hs
      simp only at hs h ⊢
      rw [hs]
      exact crdK_congr _ fun i hi => by
        rw [Nat.zero_add]
        exact h i hi
section
variable {bits room : Nat} {L : List Dsk} {nm : List UInt8}
theorem szOf_lim (L : List Dsk) {t n : List UInt8} {d : Dsk} {im : ImS} (hd : dk L t = some d) (hs : Like d.im im) : szOf (lim L t im none) n = szOf L n ∧ (dk (lim L t im none) n).isSome = (dk L n).isSome := by
  by_cases e : n = t
  · subst e
    unfold szOf
    rw [dk_lim_self hd, hd]
    exact ⟨hs.tl, rfl⟩
  · unfold szOf
    rw [dk_lim_ne e]
    exact ⟨rfl, rfl⟩
/-- Writing to a cluster what it reads changes nothing of what the disk reads. -/
theorem wr_self (h : CS bits room L) {d : Dsk} (hd : dk L nm = some d) {k : Nat} (hk : k < d.im.t.length) : allC bits (wrC bits L nm ((k * 2 ^ bits : Nat) : Int) (clC bits L nm (k : Int))).L nm = allC bits L nm := by
  have hcl : clC bits L nm (k : Int) = cseen bits L nm (dpt L nm) k := by
    unfold clC
    rw [hd]
    simp only
    rw [if_pos ⟨by omega, by omega⟩]
    rfl
  rw [hcl]
  by_cases he : (wrC bits L nm ((k * 2 ^ bits : Nat) : Int) (cseen bits L nm (dpt L nm) k)).e = 0
  · obtain ⟨d', im, hd', hs, hL, _⟩ := wr_kind h he
    have hw := wr_sector h he
    have hlen : (cseen bits L nm (dpt L nm) k).length = 16 * 2 ^ bits := cseen_len h.toChOK hd (h.dep nm).1 k
    have hp := pow_le8 h.b3
    rw [hlen, show 16 * 2 ^ bits / 16 = 2 ^ bits by omega] at hw
    rw [hL] at hw ⊢
    obtain ⟨g1, g2⟩ := szOf_lim L (n := nm) hd' hs
    refine allC_congr g1 g2 fun s _ => ?_
    rw [hw s]
    show (if k * 2 ^ bits ≤ s ∧ s < k * 2 ^ bits + 2 ^ bits then _ else _) = _
    split
    · rename_i c
      have hs1 : s / 2 ^ bits = k := by
        rw [Nat.div_eq_iff (by omega)]
        omega
      have hs2 : s % 2 ^ bits = s - k * 2 ^ bits := by
        have h1 := Nat.div_add_mod s (2 ^ bits)
        rw [hs1, Nat.mul_comm] at h1
        omega
      rw [crdP_sec, hs1, hs2]
      rfl
    · rfl
  · rw [wrC_err h he]
end
/-! ### what is between stands between -/
section
variable {bits room : Nat} {L : List Dsk} {top base : List UInt8}
theorem bt_split (h : CS bits room L) {d : Dsk} (hd : dk L top = some d) (hi : btI L top base = true) : bl L (dpt L top) top = btL L top base ++ (if base = [] then [] else base :: bl L (dpt L base) base) ∧ (base = [] ∨ ∃ e, dk L base = some e) ∧ dpt L base + (btL L top base).length + (if base = [] then 0 else 1) = dpt L top := by
  have key : ∀ (k : Nat) (nm : List UInt8), Dn L nm k → (∃ d, dk L nm = some d) → (base = [] ∨ base ∈ bl L k nm) → bl L k nm = (bl L k nm).takeWhile (fun n => !decide (n = base)) ++ (if base = [] then [] else base :: bl L (dpt L base) base) ∧ (base = [] ∨ ∃ e, dk L base = some e) := by
    intro k nm hD
    induction hD with
    | gone hg => rintro ⟨d, hd⟩; rw [hg] at hd; cases hd
    | base h1 h2 =>
      rintro _ hb
      rcases hb with hb | hb
      · rw [if_pos hb]
        exact ⟨rfl, .inl hb⟩
      · cases hb
    | @step nm d k h1 h2 h3 ih =>
      rintro _ hb
      have hkn := h.kn d (dk_get h1).1 h2
      have hbl : bl L (k + 1) nm = d.back :: bl L k d.back := by
        conv => lhs; unfold bl
        rw [h1]
      rw [hbl] at hb ⊢
      rw [List.takeWhile_cons]
      by_cases e : d.back = base
      · rw [decide_eq_true e]
        have hbn : ¬ base = [] := by rw [← e]; exact h2
        rw [if_neg hbn]
        refine ⟨?_, .inr (by rw [← e]; exact hkn)⟩
        show d.back :: bl L k d.back = [] ++ _
        rw [List.nil_append, e]
        rw [e] at h3
        rw [dn_det h3 (h.dep base).1]
      · rw [decide_eq_false e]
        obtain ⟨g1, g2⟩ := ih hkn (hb.imp id fun x => (List.mem_cons.1 x).resolve_left fun y => e y.symm)
        refine ⟨?_, g2⟩
        show d.back :: bl L k d.back = d.back :: _ ++ _
        rw [List.cons_append, ← g1]
  unfold btI at hi
  rw [Bool.and_eq_true, Bool.or_eq_true] at hi
  obtain ⟨g1, g2⟩ := key _ top (h.dep top).1 ⟨d, hd⟩ (hi.2.imp of_decide_eq_true of_decide_eq_true)
  refine ⟨g1, g2, ?_⟩
  have hl := congrArg List.length g1
  rw [bl_len (h.dep top).1, List.length_append] at hl
  have hbb := bl_len (h.dep base).1
  unfold btL
  by_cases e : base = []
  · rw [if_pos e] at hl ⊢
    have : dpt L base = 0 := by
      have hn : dk L base = none := by
        cases x : dk L base with
        | none => rfl
        | some y => exact absurd e (known_ne h ⟨y, x⟩)
      exact dpt_of (.gone hn) (by omega)
    rw [List.length_nil] at hl
    omega
  · rw [if_neg e] at hl ⊢
    rw [List.length_cons] at hl
    omega
theorem bt_known (h : CS bits room L) {d : Dsk} (hd : dk L top = some d) : ∀ n, n ∈ btL L top base → n ≠ top ∧ ∃ e, dk L n = some e := fun n hn => by
  have hm : n ∈ bl L (dpt L top) top := (List.takeWhile_sublist _).mem hn
  refine ⟨fun e => ?_, h.kn_all ⟨d, hd⟩ n (List.mem_cons_of_mem _ hm)⟩
  rw [e] at hm
  exact bl_self (h.dep top).1 hm
theorem seenL_skip {c : Nat} : ∀ (ns ms : List (List UInt8)) (i : Nat), (∀ n, n ∈ ns → (∃ e, dk L n = some e) ∧ hol L n c = true) → (seenL bits L c (ns ++ ms) i).1 = (seenL bits L c ms 0).1
  | [], ms, i, _ => seenL_fst ms i 0
  | n :: ns, ms, i, h => by
    obtain ⟨⟨e, he⟩, hh⟩ := h n (List.mem_cons_self ..)
    unfold hol at hh
    rw [he] at hh
    simp only [Bool.or_eq_true] at hh
    rw [List.cons_append, seenL_tail he (fun x => hh.elim (fun g => by have := of_decide_eq_true g; omega) fun g => x.2 (of_decide_eq_true g))]
    exact seenL_skip ns ms (i + 1) fun x hx => h x (List.mem_cons_of_mem _ hx)
theorem seenL_lset (nm back : List UInt8) {c : Nat} : ∀ (ns : List (List UInt8)) (i : Nat), seenL bits (lset L nm back) c ns i = seenL bits L c ns i
  | [], _ => rfl
  | n :: ns, i => by
    conv => lhs; unfold seenL
    conv => rhs; unfold seenL
    rw [dk_lset]
    cases dk L n with
    | none => rfl
    | some d =>
      show (if c < (rbD nm back d).im.t.length ∧ ((rbD nm back d).im.t.getD c s0).1 ≠ 0 then (clus (rbD nm back d).im c none, i + 1) else _) = _
      rw [rbD_im, seenL_lset nm back ns (i + 1)]
theorem bl_off (nm back : List UInt8) : ∀ {k : Nat} {n : List UInt8}, Dn L n k → n ≠ nm → nm ∉ bl L k n → bl (lset L nm back) k n = bl L k n := by
  intro k n hD
  induction hD with
  | gone _ => intro _ _; rfl
  | base _ _ => intro _ _; rfl
  | @step n d k h1 h2 h3 ih =>
    intro hne hb
    have hbl : bl L (k + 1) n = d.back :: bl L k d.back := by
      conv => lhs; unfold bl
      rw [h1]
    rw [hbl] at hb ⊢
    simp only [List.mem_cons, not_or] at hb
    conv => lhs; unfold bl
    rw [dk_lset, h1]
    show (rbD nm back d).back :: bl (lset L nm back) k (rbD nm back d).back = _
    rw [rbD_back_ne (by rw [(dk_get h1).2]; exact hne), ih (fun x => hb.1 x.symm) hb.2]
/-- Who has nothing between that he sees can stand on the base: he reads the same. -/
theorem rb_read (h : CS bits room L) {d : Dsk} (hd : dk L top = some d) (hi : btI L top base = true) (hr : (rbC L top base).e = 0) {c : Nat} (hc : c < d.im.t.length) (hn : pnxP L top base c = false) : cseen bits (rbC L top base).L top (dpt (rbC L top base).L top) c = cseen bits L top (dpt L top) c := by
  have hC' := rbC_cs h top base
  have hL : (rbC L top base).L = lset L top base := by
    unfold rbC at hr ⊢
    split at hr
    · exact absurd hr (show ¬ (140 : Int) = 0 by decide)
    · rename_i h1
      split at hr
      · exact absurd hr (show ¬ (141 : Int) = 0 by decide)
      · rename_i h2
        split at hr
        · rename_i h3
          rw [if_neg h1, if_neg h2, if_pos h3]
        · exact absurd hr (show ¬ (142 : Int) = 0 by decide)
  have hloop : top ≠ base ∧ top ∉ bl L (dpt L base) base := by
    unfold rbC at hr
    split at hr
    · exact absurd hr (show ¬ (140 : Int) = 0 by decide)
    · split at hr
      · exact absurd hr (show ¬ (141 : Int) = 0 by decide)
      · rename_i h2
        exact ⟨fun e => h2 (.inl e), fun e => h2 (.inr e)⟩
  rw [hL] at hC' ⊢
  obtain ⟨g1, g2, g3⟩ := bt_split h hd hi
  have hdl : dk (lset L top base) top = some (rbD top base d) := by rw [dk_lset, hd]; rfl
  have hbk : (rbD top base d).back = base := rbD_back (dk_get hd).2
  have him : (rbD top base d).im = d.im := rbD_im top base d
  by_cases hh : hol L top c = true
  · have hh0 : (d.im.t.getD c s0).1 = 0 := by
      unfold hol at hh
      rw [hd] at hh
      simp only [Bool.or_eq_true] at hh
      exact hh.elim (fun g => by have := of_decide_eq_true g; omega) of_decide_eq_true
    rw [cseen_hole hdl (by rw [him]; exact fun x => x.2 hh0), cseen_hole hd fun x => x.2 hh0]
    have hall : ∀ n, n ∈ btL L top base → (∃ e, dk L n = some e) ∧ hol L n c = true := fun n hm => by
      refine ⟨(bt_known h hd n hm).2, ?_⟩
      unfold pnxP at hn
      rw [hh, Bool.true_and] at hn
      have := List.any_eq_false.1 hn n hm
      simpa using this
    have e1 : belY bits L top (dpt L top) c = (seenL bits L c (if base = [] then [] else base :: bl L (dpt L base) base) 0).1 := by
      unfold belY
      rw [g1, seenL_skip _ _ _ hall]
    rw [e1]
    by_cases hb : base = []
    · rw [if_pos hb]
      have hdp : dpt (lset L top base) top = 0 := dpt_of (.base hdl (by rw [hbk]; exact hb)) (by omega)
      rw [hdp]
      rfl
    · rw [if_neg hb]
      have hdp := dpt_step hC' hdl (by rw [hbk]; exact hb)
      rw [hbk] at hdp
      rw [hdp, belY_step hdl, hbk]
      unfold cseen
      have hDb := (h.dep base).1
      have hdb : dpt (lset L top base) base = dpt L base := dpt_of (dn_lset_off hDb (Ne.symm hloop.1) hloop.2) (by have := (h.dep base).2; omega)
      rw [hdb, bl_off top base hDb (Ne.symm hloop.1) hloop.2, seenL_lset]
  · have hh0 : c < d.im.t.length ∧ (d.im.t.getD c s0).1 ≠ 0 := by
      refine ⟨hc, fun e => hh ?_⟩
      unfold hol
      rw [hd]
      simp only [e]
      simp
    unfold cseen
    rw [seenL_head hdl (by rw [him]; exact hh0), seenL_head hd hh0, him]
end
end Go.Proofs.YtolaecebfkdbcaaGreat
