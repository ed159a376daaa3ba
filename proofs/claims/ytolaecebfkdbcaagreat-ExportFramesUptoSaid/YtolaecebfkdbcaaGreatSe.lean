/-
  Chains: what Write, Zero and Discard make a disk read, sector by sector.
-/
import Derived.Test.YtolaecebfkdbcaaGreatRp
set_option linter.unusedVariables false
set_option linter.unusedSimpArgs false
set_option maxRecDepth 10000
namespace Go.Proofs.YtolaecebfkdbcaaGreat
open Go.RowKit Go.Proofs
/-! ### sectors of bytes -/
def sec (x : List UInt8) (j : Nat) : List UInt8 := (x.take (j * 16 + 16)).drop (j * 16)
theorem sec_get (x : List UInt8) (j i : Nat) : (sec x j)[i]? = if i < 16 then x[j * 16 + i]? else none := by
  unfold sec
  rw [List.getElem?_drop, List.getElem?_take]
  by_cases h : i < 16
  · rw [if_pos h, if_pos (by omega)]
  · rw [if_neg h, if_neg (by omega)]
theorem laid_get {X : List UInt8} {off n : Nat} {ys : List UInt8} (h1 : off + n ≤ X.length) (h2 : ys.length = n) (m : Nat) : (laid X off n ys)[m]? = if m < off then X[m]? else if m < off + n then ys[m - off]? else X[m]? := by
  unfold laid
  have e1 : (X.take off).length = off := by rw [List.length_take]; omega
  have e2 : ys.take n = ys := List.take_of_length_le (by omega)
  rw [e2]
  by_cases c1 : m < off
  · rw [if_pos c1, List.append_assoc, List.getElem?_append_left (by omega), List.getElem?_take, if_pos c1]
  · rw [if_neg c1]
    by_cases c2 : m < off + n
    · rw [if_pos c2, List.append_assoc, List.getElem?_append_right (by omega), e1, List.getElem?_append_left (by omega)]
    · rw [if_neg c2, List.getElem?_append_right (by rw [List.length_append]; omega), List.length_append, e1, h2, List.getElem?_drop]
      congr 1
      omega
/-- A piece laid over a cluster, sector by sector: q is where the cluster begins. -/
theorem sec_laid {X bs : List UInt8} {t W a l j pa pb pt : Nat} (hX : X.length = W) (hb : bs.length = 16 * l) (hj : j * 16 + 16 ≤ W) (e1 : pa = 16 * a - 16 * t) (e2 : pb = min (16 * (a + l) - 16 * t) W) (e3 : pt = 16 * t + pa - 16 * a) (hp : pa ≤ pb) (hq : 16 * t < 16 * (a + l)) :
    sec (laid X pa (pb - pa) ((bs.take (pt + pb - pa)).drop pt)) j = if a ≤ t + j ∧ t + j < a + l then sec bs (t + j - a) else sec X j := by
  have hlen : ((bs.take (pt + pb - pa)).drop pt).length = pb - pa := by
    rw [List.length_drop, List.length_take]
    omega
  refine List.ext_getElem? fun i => ?_
  rw [sec_get, laid_get (by omega) hlen]
  by_cases hi : i < 16
  · rw [if_pos hi]
    by_cases c : a ≤ t + j ∧ t + j < a + l
    · rw [if_pos c, sec_get, if_pos hi, if_neg (by omega), if_pos (by omega), List.getElem?_drop, List.getElem?_take, if_pos (by omega)]
      congr 1
      omega
    · rw [if_neg c, sec_get, if_pos hi]
      by_cases c2 : j * 16 + i < pa
      · rw [if_pos c2]
      · rw [if_neg c2, if_neg (by omega)]
  · rw [if_neg hi]
    split
    · rw [sec_get, if_neg hi]
    · rw [sec_get, if_neg hi]
theorem sec_zero (n j : Nat) (h : j * 16 + 16 ≤ n) : sec (List.replicate n 0) j = List.replicate 16 0 := by
  unfold sec
  rw [List.take_replicate, List.drop_replicate]
  congr 1
  omega
theorem sec_len {x : List UInt8} {j : Nat} (h : j * 16 + 16 ≤ x.length) : (sec x j).length = 16 := by
  unfold sec
  rw [List.length_drop, List.length_take]
  omega
theorem crdP_sec (bits : Nat) (L : List Dsk) (nm : List UInt8) (kk s : Nat) : crdP bits L nm kk s = sec (cseen bits L nm kk (s / 2 ^ bits)) (s % 2 ^ bits) := rfl
/-- Sectors that are those of bytes make these bytes. -/
theorem crdK_of {bits : Nat} {L : List Dsk} {nm : List UInt8} {kk a : Nat} {bs : List UInt8} : ∀ n, 16 * n ≤ bs.length → (∀ i, i < n → crdP bits L nm kk (a + i) = sec bs i) → crdK bits L nm kk a n = bs.take (16 * n)
  | 0, _, _ => rfl
  | n + 1, hl, h => by
    have ih := crdK_of n (by omega) fun i hi => h i (by omega)
    show crdK bits L nm kk a n ++ crdP bits L nm kk (a + n) = _
    rw [ih, h n (Nat.lt_succ_self n)]
    unfold sec
    rw [show 16 * (n + 1) = n * 16 + 16 by omega, show 16 * n = n * 16 by omega]
    refine List.ext_getElem? fun i => ?_
    by_cases c : i < n * 16
    · rw [List.getElem?_append_left (by rw [List.length_take]; omega), List.getElem?_take, List.getElem?_take, if_pos c, if_pos (by omega)]
    · rw [List.getElem?_append_right (by rw [List.length_take]; omega), List.length_take, List.getElem?_drop, List.getElem?_take, List.getElem?_take]
      rw [show n * 16 + (i - min (n * 16) bs.length) = i by omega]
theorem crdK_congr {bits : Nat} {L L' : List Dsk} {nm nm' : List UInt8} {kk kk' a : Nat} : ∀ n, (∀ i, i < n → crdP bits L nm kk (a + i) = crdP bits L' nm' kk' (a + i)) → crdK bits L nm kk a n = crdK bits L' nm' kk' a n
  | 0, _ => rfl
  | n + 1, h => by
    show crdK bits L nm kk a n ++ crdP bits L nm kk (a + n) = crdK bits L' nm' kk' a n ++ crdP bits L' nm' kk' (a + n)
    rw [crdK_congr n fun i hi => h i (by omega), h n (Nat.lt_succ_self n)]
/-! ### clusters -/
section
variable {bits room : Nat} {L : List Dsk} {nm : List UInt8} {d : Dsk}
theorem belY_len (h : CS bits room L) (hd : dk L nm = some d) (c : Nat) : (belY bits L nm (dpt L nm) c).length = 16 * 2 ^ bits := seenL_eq h.toChOK c _ _ fun n hn => h.kn_all ⟨d, hd⟩ n (List.mem_cons_of_mem _ hn)
theorem wid_eq (h : CS bits room L) (hd : dk L nm = some d) : wid d.im = 16 * 2 ^ bits := by
  unfold wid
  rw [(h.ims d (dk_get hd).1).2.1]
theorem clus_some {s : ImS} {c : Nat} {y : List UInt8} (h : (s.t.getD c s0).1 ≠ 0) : clus s c (some y) = clus s c none := by
  unfold clus
  rw [List.getD_eq_getElem?_getD] at h
  cases e : s.t[c]? with
  | none => rfl
  | some q =>
    rw [e] at h
    simp only [Option.getD_some] at h
    simp only
    split
    · rfl
    · first | rfl | (rw [if_neg h])
theorem clus_hole {s : ImS} {c : Nat} {y : List UInt8} (hc : c < s.t.length) (h : (s.t.getD c s0).1 = 0) (hy : y.length = wid s) : clus s c (some y) = y := by
  unfold clus
  rw [List.getD_eq_getElem?_getD] at h
  rw [List.getElem?_eq_getElem hc] at h ⊢
  simp only [Option.getD_some] at h
  simp only
  rw [if_neg (by rw [h]; decide), if_pos h, if_pos hy]
/-- What a disk reads in a cluster: its image's, with what is below told for Holes. -/
theorem cseen_clus (h : CS bits room L) (hd : dk L nm = some d) {c : Nat} (hc : c < d.im.t.length) : cseen bits L nm (dpt L nm) c = clus d.im c (some (belY bits L nm (dpt L nm) c)) := by
  by_cases hk : (d.im.t.getD c s0).1 = 0
  · rw [cseen_hole hd (fun hh => hh.2 hk), clus_hole hc hk (by rw [belY_len h hd, wid_eq h hd])]
  · rw [clus_some hk]
    unfold cseen
    rw [seenL_head hd ⟨hc, hk⟩]
/-- .. behind a change of the image. -/
theorem cseen_lim2 (h : CS bits room L) (hd : dk L nm = some d) {im : ImS} (hs : Like d.im im) {c : Nat} (hc : c < d.im.t.length) : cseen bits (lim L nm im none) nm (dpt (lim L nm im none) nm) c = clus im c (some (belY bits L nm (dpt L nm) c)) := by
  have h' := h.lim hd hs
  have hd' := dk_lim_self hd im none
  rw [cseen_clus h' hd' (by show c < im.t.length; rw [hs.tl]; exact hc), dpt_lim h nm im none nm]
  show clus im c (some _) = _
  have e : belY bits (lim L nm im none) nm (dpt L nm) c = belY bits L nm (dpt L nm) c := by
    unfold belY
    rw [bl_lim, seenL_lim _ _ (bl_self (h.dep nm).1)]
  rw [e]
theorem cseen_lim_far (h : CS bits room L) (hd : dk L nm = some d) {im : ImS} (hs : Like d.im im) {c : Nat} (hc : ¬ c < d.im.t.length) : cseen bits (lim L nm im none) nm (dpt (lim L nm im none) nm) c = cseen bits L nm (dpt L nm) c := by
  have hd' := dk_lim_self hd im none
  rw [dpt_lim h nm im none nm, cseen_lim hd (h.dep nm).1, if_neg fun hh => hc (by rw [← hs.tl]; exact hh.1), cseen_hole hd fun hh => hc hh.1]
theorem clus_lenS (h : CS bits room L) (hd : dk L nm = some d) {c : Nat} (hc : c < d.im.t.length) (y : Option (List UInt8)) : (clus d.im c y).length = 16 * 2 ^ bits := by
  rw [clus_len (h.ims d (dk_get hd).1).1 hc, wid_eq h hd]
end
/-! ### pieces of a disk's clusters -/
theorem pc_range {W a l : Nat} (hW : isW W) (hl : 0 < l) {c : Nat} : (16 * a / W ≤ c ∧ c < 16 * a / W + pcN W a l) ↔ (16 * a < (c + 1) * W ∧ c * W < 16 * (a + l)) := by
  have hp : 0 < W := by rcases hW with h | h | h | h <;> omega
  have k1 : 16 * a / W ≤ c ↔ 16 * a < (c + 1) * W := by
    rw [← Nat.lt_succ_iff, Nat.succ_eq_add_one, Nat.div_lt_iff_lt_mul hp]
  constructor
  · rintro ⟨h1, h2⟩
    have := (pcN_iff hW (a := a) (l := l) (k := c - 16 * a / W)).2 (by omega)
    rw [show 16 * a / W + (c - 16 * a / W) = c by omega] at this
    exact ⟨k1.1 h1, this.2⟩
  · rintro ⟨h1, h2⟩
    have h1 := k1.2 h1
    refine ⟨h1, ?_⟩
    have := (pcN_iff hW (a := a) (l := l) (k := c - 16 * a / W)).1 ⟨hl, by rw [show 16 * a / W + (c - 16 * a / W) = c by omega]; exact h2⟩
    omega
/-- A cluster behind a piece of it was laid over, sector by sector. -/
theorem sec_piece {X bs : List UInt8} {b a l c : Nat} (hb : b ≤ 3) (hX : X.length = 16 * 2 ^ b) (hbs : bs.length = 16 * l) (hin : 16 * a < (c + 1) * (16 * 2 ^ b) ∧ c * (16 * 2 ^ b) < 16 * (a + l)) {j : Nat} (hj : j < 2 ^ b) :
    sec (laid X (pce (16 * 2 ^ b) a l (c - 16 * a / (16 * 2 ^ b))).a ((pce (16 * 2 ^ b) a l (c - 16 * a / (16 * 2 ^ b))).b - (pce (16 * 2 ^ b) a l (c - 16 * a / (16 * 2 ^ b))).a) (bsP bs (pce (16 * 2 ^ b) a l (c - 16 * a / (16 * 2 ^ b))))) j =
      if a ≤ c * 2 ^ b + j ∧ c * 2 ^ b + j < a + l then sec bs (c * 2 ^ b + j - a) else sec X j := by
  have hp := pow_le8 hb
  have hW : 0 < 16 * 2 ^ b := by omega
  have hc : 16 * a / (16 * 2 ^ b) ≤ c := by
    rw [← Nat.lt_succ_iff, Nat.succ_eq_add_one, Nat.div_lt_iff_lt_mul hW]
    exact hin.1
  have hcc : 16 * a / (16 * 2 ^ b) + (c - 16 * a / (16 * 2 ^ b)) = c := by omega
  have ht : c * (16 * 2 ^ b) = 16 * (c * 2 ^ b) := Nat.mul_left_comm ..
  have ht2 : (c + 1) * (16 * 2 ^ b) = 16 * (c * 2 ^ b) + 16 * 2 ^ b := by rw [Nat.succ_mul, ht]
  unfold bsP
  refine sec_laid (t := c * 2 ^ b) (W := 16 * 2 ^ b) hX hbs (by omega) ?_ ?_ ?_ ?_ (by omega)
  · show 16 * a - (16 * a / (16 * 2 ^ b) + (c - 16 * a / (16 * 2 ^ b))) * (16 * 2 ^ b) = _
    rw [hcc, ht]
  · show min (16 * (a + l) - (16 * a / (16 * 2 ^ b) + (c - 16 * a / (16 * 2 ^ b))) * (16 * 2 ^ b)) (16 * 2 ^ b) = _
    rw [hcc, ht]
  · show (16 * a / (16 * 2 ^ b) + (c - 16 * a / (16 * 2 ^ b))) * (16 * 2 ^ b) + (16 * a - (16 * a / (16 * 2 ^ b) + (c - 16 * a / (16 * 2 ^ b))) * (16 * 2 ^ b)) - 16 * a = 16 * (c * 2 ^ b) + (16 * a - (16 * a / (16 * 2 ^ b) + (c - 16 * a / (16 * 2 ^ b))) * (16 * 2 ^ b)) - 16 * a
    rw [hcc, ht]
  · show 16 * a - (16 * a / (16 * 2 ^ b) + (c - 16 * a / (16 * 2 ^ b))) * (16 * 2 ^ b) ≤ min (16 * (a + l) - (16 * a / (16 * 2 ^ b) + (c - 16 * a / (16 * 2 ^ b))) * (16 * 2 ^ b)) (16 * 2 ^ b)
    rw [hcc, ht]
    omega
/-! ### Write -/
section
variable {bits room : Nat} {L : List Dsk} {nm : List UInt8}
theorem wrC_inv {a : Int} {bs : List UInt8} (he : (wrC bits L nm a bs).e = 0) : ∃ d, dk L nm = some d ∧ bs.length = 16 * (bs.length / 16) ∧ a = ((a.toNat : Nat) : Int) ∧ iIns d.im a.toNat ((bs.length / 16 : Nat) : Int) = 0 ∧ ndK d.im a.toNat (bs.length / 16) (pcN (wid d.im) a.toNat (bs.length / 16)) ≤ zeros d.im.l ∧
    (wrC bits L nm a bs).L = lim L nm (iwrK d.im a.toNat (bs.length / 16) bs (belY bits L nm (dpt L nm)) (pcN (wid d.im) a.toNat (bs.length / 16))) none := by
  unfold wrC at he ⊢
  cases h0 : dk L nm with
  | none => rw [h0] at he; exact absurd he (show ¬ (140 : Int) = 0 by decide)
  | some d =>
    rw [h0] at he
    simp only at he ⊢
    split at he
    · exact absurd he (show ¬ (1 : Int) = 0 by decide)
    · rename_i h1
      split at he
      · rename_i h2; exact absurd he h2
      · rename_i h2
        rw [if_neg h1, if_neg h2]
        have h2 : iIns d.im a ((bs.length / 16 : Nat) : Int) = 0 := Decidable.byContradiction h2
        have e1 := (iIns_pos h2).1
        have he : iwE d.im a.toNat (bs.length / 16) = 0 := he
        unfold iwE at he
        split at he
        · rename_i h3
          refine ⟨d, rfl, by omega, e1, by rw [← e1]; exact h2, h3, ?_⟩
          show lim L nm (iwS d.im a.toNat (bs.length / 16) bs _) none = _
          unfold iwS
          rw [if_pos h3]
        · exact absurd he (by decide)
/-- What was written is read; all else is as it was. -/
theorem wr_sector (h : CS bits room L) {a : Int} {bs : List UInt8} (he : (wrC bits L nm a bs).e = 0) (s : Nat) :
    crdP bits (wrC bits L nm a bs).L nm (dpt (wrC bits L nm a bs).L nm) s = if a.toNat ≤ s ∧ s < a.toNat + bs.length / 16 then sec bs (s - a.toNat) else crdP bits L nm (dpt L nm) s := by
  obtain ⟨d, hd, hbl, ha, hin, hnd, hL⟩ := wrC_inv he
  rw [hL]
  obtain ⟨hO, hbt, _⟩ := h.ims d (dk_get hd).1
  have hall := iIns_all hin
  have hW := wid_isW hO.bits
  have hwi := wid_eq h hd
  have hp := pow_le8 h.b3
  generalize a.toNat = a0 at *
  have hI := (wrI hO hbl hall (belY bits L nm (dpt L nm)) hnd _ (Nat.le_refl _)).1
  have hpos : 0 < 2 ^ bits := by omega
  have hj : s % 2 ^ bits < 2 ^ bits := Nat.mod_lt _ hpos
  have hs : s / 2 ^ bits * 2 ^ bits + s % 2 ^ bits = s := by rw [Nat.mul_comm]; exact Nat.div_add_mod s _
  have hia : iall d.im = d.im.t.length * 2 ^ bits := iall_one h hd
  rw [crdP_sec, crdP_sec]
  by_cases hc : s / 2 ^ bits < d.im.t.length
  · rw [cseen_lim2 h hd hI.like hc, cseen_clus h hd hc]
    have hX := clus_lenS h hd hc (some (belY bits L nm (dpt L nm) (s / 2 ^ bits)))
    by_cases hr : 16 * a0 / wid d.im ≤ s / 2 ^ bits ∧ s / 2 ^ bits < 16 * a0 / wid d.im + pcN (wid d.im) a0 (bs.length / 16)
    · have hl0 : 0 < bs.length / 16 := by
        refine Nat.pos_of_ne_zero fun e => ?_
        rw [e] at hr
        have : pcN (wid d.im) a0 0 = 0 := rfl
        omega
      have hdn := (hI.done (s / 2 ^ bits - 16 * a0 / wid d.im) (by omega)).2 (some (belY bits L nm (dpt L nm) (s / 2 ^ bits)))
      rw [show 16 * a0 / wid d.im + (s / 2 ^ bits - 16 * a0 / wid d.im) = s / 2 ^ bits by omega] at hdn
      rw [hdn]
      have hin2 := (pc_range hW hl0).1 hr
      rw [hwi] at hin2 ⊢
      rw [sec_piece h.b3 hX hbl hin2 hj, hs]
    · have hsm := (hI.far (s / 2 ^ bits) (by omega)).2 (some (belY bits L nm (dpt L nm) (s / 2 ^ bits)))
      rw [hsm, if_neg]
      rintro ⟨g1, g2⟩
      apply hr
      refine (pc_range hW (by omega)).2 ?_
      rw [hwi]
      have e1 : (s / 2 ^ bits + 1) * (16 * 2 ^ bits) = 16 * (s / 2 ^ bits * 2 ^ bits) + 16 * 2 ^ bits := by rw [Nat.succ_mul, Nat.mul_left_comm]
      have e2 : s / 2 ^ bits * (16 * 2 ^ bits) = 16 * (s / 2 ^ bits * 2 ^ bits) := Nat.mul_left_comm ..
      rw [e1, e2]
      omega
  · rw [cseen_lim_far h hd hI.like hc, if_neg]
    rintro ⟨g1, g2⟩
    apply hc
    rw [Nat.div_lt_iff_lt_mul hpos, ← hia]
    omega
end
/-! ### Zero -/
theorem laid_zero {n off m : Nat} (h : off + m ≤ n) : laid (List.replicate n 0) off m (zerB m) = List.replicate n (0 : UInt8) := by
  refine List.ext_getElem? fun i => ?_
  rw [laid_get (by rw [List.length_replicate]; exact h) List.length_replicate]
  simp only [List.getElem?_replicate]
  split
  · rfl
  · split
    · rw [if_pos (by omega), if_pos (by omega)]
    · rfl
theorem laid_all {X : List UInt8} {n : Nat} (h : X.length = n) : laid X 0 n (zerB n) = List.replicate n (0 : UInt8) := by
  unfold laid
  rw [List.take_zero, List.nil_append, List.take_of_length_le (by rw [List.length_replicate]; exact Nat.le_refl _), List.length_replicate, List.drop_eq_nil_of_le (by omega), List.append_nil]
theorem clus_zr {s : ImS} {c : Nat} (h : s.t[c]? = some sZr) (z : Option (List UInt8)) : clus s c z = zer s := by
  unfold clus
  rw [h]
  rfl
theorem zr_done {s : ImS} (hO : ImOK s) {a l : Nat} (hall : a + l ≤ iall s) (y : Nat → List UInt8) (hnd : zdK s a l (pcN (wid s) a l) ≤ zeros s.l) : ∀ k, k ≤ pcN (wid s) a l → ∀ j, j < k →
    clus (izrK s a l y k) (16 * a / wid s + j) (some (y (16 * a / wid s + j))) = laid (clus s (16 * a / wid s + j) (some (y (16 * a / wid s + j)))) (pce (wid s) a l j).a ((pce (wid s) a l j).b - (pce (wid s) a l j).a) (zerB ((pce (wid s) a l j).b - (pce (wid s) a l j).a))
  | 0, _, j, hj => absurd hj (by omega)
  | k + 1, hk, j, hj => by
    have h := zrI hO hall y hnd k (by omega)
    have hk2 : k < pcN (wid s) a l := by omega
    obtain ⟨hc, _⟩ := pce_c hO hall hk2
    obtain ⟨p1, p2, p3, p4⟩ := pce_ok (wid_isW hO.bits) hk2
    have hpc : (pce (wid s) a l k).c = 16 * a / wid s + k := rfl
    have hc2 : (pce (wid s) a l k).c < (izrK s a l y k).t.length := by rw [h.like.tl]; exact hc
    have hsame := h.far (16 * a / wid s + k) (.inr (Nat.le_refl _))
    have e1 : izrK s a l y (k + 1) = zpS (izrK s a l y k) (pce (wid s) a l k) (y (pce (wid s) a l k).c) := rfl
    unfold zpS at e1
    rw [whole_like h.like] at e1
    have hlen := clus_len hO (c := 16 * a / wid s + k) hc (some (y (16 * a / wid s + k)))
    have hzer : zer (izrK s a l y k) = zer s := by unfold zer; rw [h.like.wid]
    have ih : j < k → _ := zr_done hO hall y hnd k (by omega) j
    by_cases hw : isWhole s (pce (wid s) a l k) = true
    · rw [if_pos hw] at e1
      have hp := iset_law h.like.ok (c := (pce (wid s) a l k).c) hc2 (q := sZr) (.inr rfl)
      rw [← e1] at hp
      by_cases hjk : j < k
      · rw [(hp.far (16 * a / wid s + j) (by rw [hpc]; omega)).2]
        exact ih hjk
      · have : j = k := by omega
        subst this
        have hw : (pce (wid s) a l j).b - (pce (wid s) a l j).a = wid s := of_decide_eq_true hw
        have h5 := clus_zr hp.there (some (y (16 * a / wid s + j)))
        rw [hpc] at h5
        rw [h5, hw, show (pce (wid s) a l j).a = 0 by omega, laid_all hlen]
        unfold zer
        rw [hp.like.wid, h.like.wid]
    · have hw : isWhole s (pce (wid s) a l k) = false := by simpa using hw
      rw [hw, if_neg (by decide)] at e1
      by_cases h2 : ((izrK s a l y k).t.getD (pce (wid s) a l k).c s0).1 = 2
      · rw [if_pos h2] at e1
        rw [e1]
        by_cases hjk : j < k
        · exact ih hjk
        · have : j = k := by omega
          subst this
          rw [hsame.2]
          have h3 : (s.t.getD (16 * a / wid s + j) s0).1 = 2 := by
            rw [List.getD_eq_getElem?_getD] at h2 ⊢
            rw [show (izrK s a l y j).t[(pce (wid s) a l j).c]? = s.t[16 * a / wid s + j]? from hsame.1] at h2
            exact h2
          have h4 : s.t[16 * a / wid s + j]? = some sZr := by
            rw [List.getD_eq_getElem?_getD] at h3
            cases e : s.t[16 * a / wid s + j]? with
            | none => rw [e] at h3; exact absurd h3 (by decide)
            | some q =>
              rw [e] at h3
              have h3 : q.1 = 2 := h3
              rcases hO.slot _ _ e with g | g | ⟨hh, g, _⟩
              · rw [g] at h3
                exact absurd h3 (by decide)
              · rw [g]
              · rw [g] at h3
                exact absurd h3 (show ¬ (1 : Int) = 2 by decide)
          rw [clus_zr h4]
          unfold zer
          rw [laid_zero (by omega)]
      · rw [if_neg h2] at e1
        have hp := iput_law (y := y (pce (wid s) a l k).c) (bs := zerB ((pce (wid s) a l k).b - (pce (wid s) a l k).a)) h.like.ok hc2 p1 (by rw [h.like.wid]; exact p2) List.length_replicate (zrHz hnd h hk2 hw h2)
        rw [← e1] at hp
        by_cases hjk : j < k
        · rw [(hp.far (16 * a / wid s + j) (by rw [hpc]; omega)).2]
          exact ih hjk
        · have : j = k := by omega
          subst this
          have := hp.there (some (y (16 * a / wid s + j)))
          rw [hpc] at this
          rw [this, hsame.2]
section
variable {bits room : Nat} {L : List Dsk} {nm : List UInt8}
theorem zrC_inv {a l : Int} (he : (zrC bits L nm a l).e = 0) : ∃ d, dk L nm = some d ∧ a = ((a.toNat : Nat) : Int) ∧ l = ((l.toNat : Nat) : Int) ∧ iIns d.im a.toNat l.toNat = 0 ∧ zdK d.im a.toNat l.toNat (pcN (wid d.im) a.toNat l.toNat) ≤ zeros d.im.l ∧
    (zrC bits L nm a l).L = lim L nm (izrK d.im a.toNat l.toNat (belY bits L nm (dpt L nm)) (pcN (wid d.im) a.toNat l.toNat)) none := by
  unfold zrC at he ⊢
  cases h0 : dk L nm with
  | none => rw [h0] at he; exact absurd he (show ¬ (140 : Int) = 0 by decide)
  | some d =>
    rw [h0] at he
    simp only at he ⊢
    split at he
    · rename_i h2; exact absurd he h2
    · rename_i h2
      rw [if_neg h2]
      have h2 : iIns d.im a l = 0 := Decidable.byContradiction h2
      obtain ⟨e1, e2⟩ := iIns_pos h2
      have he : izE d.im a.toNat l.toNat = 0 := he
      unfold izE at he
      split at he
      · rename_i h3
        refine ⟨d, rfl, e1, e2, by rw [← e1, ← e2]; exact h2, h3, ?_⟩
        show lim L nm (izS d.im a.toNat l.toNat _) none = _
        unfold izS
        rw [if_pos h3]
      · exact absurd he (by decide)
theorem zr_sector (h : CS bits room L) {a l : Int} (he : (zrC bits L nm a l).e = 0) (s : Nat) :
    crdP bits (zrC bits L nm a l).L nm (dpt (zrC bits L nm a l).L nm) s = if a.toNat ≤ s ∧ s < a.toNat + l.toNat then List.replicate 16 0 else crdP bits L nm (dpt L nm) s := by
  obtain ⟨d, hd, ha, hl, hin, hnd, hL⟩ := zrC_inv he
  rw [hL]
  obtain ⟨hO, hbt, _⟩ := h.ims d (dk_get hd).1
  have hall := iIns_all hin
  have hW := wid_isW hO.bits
  have hwi := wid_eq h hd
  have hp := pow_le8 h.b3
  generalize a.toNat = a0 at *
  generalize l.toNat = l0 at *
  have hI := zrI hO hall (belY bits L nm (dpt L nm)) hnd _ (Nat.le_refl _)
  have hdone := zr_done hO hall (belY bits L nm (dpt L nm)) hnd _ (Nat.le_refl _)
  have hpos : 0 < 2 ^ bits := by omega
  have hj : s % 2 ^ bits < 2 ^ bits := Nat.mod_lt _ hpos
  have hs : s / 2 ^ bits * 2 ^ bits + s % 2 ^ bits = s := by rw [Nat.mul_comm]; exact Nat.div_add_mod s _
  have hia : iall d.im = d.im.t.length * 2 ^ bits := iall_one h hd
  rw [crdP_sec, crdP_sec]
  by_cases hc : s / 2 ^ bits < d.im.t.length
  · rw [cseen_lim2 h hd hI.like hc, cseen_clus h hd hc]
    have hX := clus_lenS h hd hc (some (belY bits L nm (dpt L nm) (s / 2 ^ bits)))
    by_cases hr : 16 * a0 / wid d.im ≤ s / 2 ^ bits ∧ s / 2 ^ bits < 16 * a0 / wid d.im + pcN (wid d.im) a0 l0
    · have hl0 : 0 < l0 := by
        refine Nat.pos_of_ne_zero fun e => ?_
        rw [e] at hr
        have : pcN (wid d.im) a0 0 = 0 := rfl
        omega
      have hdn := hdone (s / 2 ^ bits - 16 * a0 / wid d.im) (by omega)
      rw [show 16 * a0 / wid d.im + (s / 2 ^ bits - 16 * a0 / wid d.im) = s / 2 ^ bits by omega] at hdn
      rw [hdn]
      have hin2 := (pc_range hW hl0).1 hr
      have hpk : s / 2 ^ bits - 16 * a0 / wid d.im < pcN (wid d.im) a0 l0 := by omega
      obtain ⟨p1, p2, p3, p4⟩ := pce_ok hW hpk
      have hbsP : zerB ((pce (wid d.im) a0 l0 (s / 2 ^ bits - 16 * a0 / wid d.im)).b - (pce (wid d.im) a0 l0 (s / 2 ^ bits - 16 * a0 / wid d.im)).a) = bsP (List.replicate (16 * l0) 0) (pce (wid d.im) a0 l0 (s / 2 ^ bits - 16 * a0 / wid d.im)) := by
        unfold bsP
        rw [List.take_replicate, List.drop_replicate]
        congr 1
        omega
      rw [hbsP]
      rw [hwi] at hin2 ⊢
      rw [sec_piece h.b3 hX List.length_replicate hin2 hj, hs]
      split
      · rw [sec_zero _ _ (by omega)]
      · rfl
    · have hsm := (hI.far (s / 2 ^ bits) (by omega)).2 (some (belY bits L nm (dpt L nm) (s / 2 ^ bits)))
      rw [hsm, if_neg]
      rintro ⟨g1, g2⟩
      apply hr
      refine (pc_range hW (by omega)).2 ?_
      rw [hwi]
      have e1 : (s / 2 ^ bits + 1) * (16 * 2 ^ bits) = 16 * (s / 2 ^ bits * 2 ^ bits) + 16 * 2 ^ bits := by rw [Nat.succ_mul, Nat.mul_left_comm]
      have e2 : s / 2 ^ bits * (16 * 2 ^ bits) = 16 * (s / 2 ^ bits * 2 ^ bits) := Nat.mul_left_comm ..
      rw [e1, e2]
      omega
  · rw [cseen_lim_far h hd hI.like hc, if_neg]
    rintro ⟨g1, g2⟩
    apply hc
    rw [Nat.div_lt_iff_lt_mul hpos, ← hia]
    omega
end
end Go.Proofs.YtolaecebfkdbcaaGreat
