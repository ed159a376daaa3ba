/-
Part 15 of the proof that stands in YtojaemgabaehdaaGreatPpRow, with what it needs from the parts ahead; the parts of this text: Se, Pp, Ki, Ew, Es, Bz, Rx, Sn, Mc.
-/
import Derived.Test.YtojaemgabaehdaaGreatPp14
/-!
  Chains: what Write, Zero and Discard make a disk read, sector by sector.
-/
namespace Go.Proofs.YtojaemgabaehdaaGreat
set_option linter.unusedVariables false
set_option linter.unusedSimpArgs false
set_option maxRecDepth 10000
open Go.RowKit Go.Proofs
/-! ### sectors of bytes -/
def sec (x : List UInt8) (j : Nat) : List UInt8 := (x.take (j * 16 + 16)).drop (j * 16)
theorem sec_get (x : List UInt8) (j i : Nat) : (sec x j)[i]? = if i < 16 then x[j * 16 + i]? else none := by
 unfold sec
 rw [List.getElem?_drop, List.getElem?_take]
 by_cases h : i < 16
 · rw [if_pos h, if_pos (by omega)]
 · rw [if_neg h, if_neg (by omega)]
theorem laid_get {X : List UInt8} {off n : Nat} {ys : List UInt8} (h1 : off + n ≤ X.length) (h2 : ys.length = n) (m : Nat) : (laid X off n ys)[m]? = if m < off then X[m]? else if m < off + n then ys[m - off]? else X[m]? := by
 unfold laid
 have e1 : (X.take off).length = off := by rw [List.length_take]; omega
 have e2 : ys.take n = ys := List.take_of_length_le (by omega)
 rw [e2]
 by_cases c1 : m < off
 · rw [if_pos c1, List.append_assoc, List.getElem?_append_left (by omega), List.getElem?_take, if_pos c1]
 · rw [if_neg c1]
   by_cases c2 : m < off + n
   · rw [if_pos c2, List.append_assoc, List.getElem?_append_right (by omega), e1, List.getElem?_append_left (by omega)]
   · rw [if_neg c2, List.getElem?_append_right (by rw [List.length_append]; omega), List.length_append, e1, h2, List.getElem?_drop]
     congr 1
     omega
/-- A piece laid over a cluster, sector by sector: q is where the cluster begins. -/
theorem sec_laid {X bs : List UInt8} {t W a l j pa pb pt : Nat} (hX : X.length = W) (hb : bs.length = 16 * l) (hj : j * 16 + 16 ≤ W) (e1 : pa = 16 * a - 16 * t) (e2 : pb = min (16 * (a + l) - 16 * t) W) (e3 : pt = 16 * t + pa - 16 * a) (hp : pa ≤ pb) (hq : 16 * t < 16 * (a + l)) :
   sec (laid X pa (pb - pa) ((bs.take (pt + pb - pa)).drop pt)) j = if a ≤ t + j ∧ t + j < a + l then sec bs (t + j - a) else sec X j := by
 have hlen : ((bs.take (pt + pb - pa)).drop pt).length = pb - pa := by
   rw [List.length_drop, List.length_take]
   omega
 refine List.ext_getElem? fun i => ?_
 rw [sec_get, laid_get (by omega) hlen]
 by_cases hi : i < 16
 · rw [if_pos hi]
   by_cases c : a ≤ t + j ∧ t + j < a + l
   · rw [if_pos c, sec_get, if_pos hi, if_neg (by omega), if_pos (by omega), List.getElem?_drop, List.getElem?_take, if_pos (by omega)]
     congr 1
     omega
   · rw [if_neg c, sec_get, if_pos hi]
     by_cases c2 : j * 16 + i < pa
     · rw [if_pos c2]
     · rw [if_neg c2, if_neg (by omega)]
 · rw [if_neg hi]
   split
   · rw [sec_get, if_neg hi]
   · rw [sec_get, if_neg hi]
theorem sec_zero (n j : Nat) (h : j * 16 + 16 ≤ n) : sec (List.replicate n 0) j = List.replicate 16 0 := by
 unfold sec
 rw [List.take_replicate, List.drop_replicate]
 congr 1
 omega
theorem crdP_sec (bits : Nat) (L : List Dsk) (nm : List UInt8) (kk s : Nat) : crdP bits L nm kk s = sec (cseen bits L nm kk (s / 2 ^ bits)) (s % 2 ^ bits) := rfl
/-! ### clusters -/
section
variable {bits room : Nat} {L : List Dsk} {nm : List UInt8} {d : Dsk}
theorem belY_len (h : CS bits room L) (hd : dk L nm = some d) (c : Nat) : (belY bits L nm (dpt L nm) c).length = 16 * 2 ^ bits := seenL_eq h.toChOK c _ _ fun n hn => h.kn_all ⟨d, hd⟩ n (List.mem_cons_of_mem _ hn)
theorem wid_eq (h : CS bits room L) (hd : dk L nm = some d) : wid d.im = 16 * 2 ^ bits := by
 unfold wid
 rw [(h.ims d (dk_get hd).1).2.1]
theorem clus_some {s : ImS} {c : Nat} {y : List UInt8} (h : (s.t.getD c s0).1 ≠ 0) : clus s c (some y) = clus s c none := by
 unfold clus
 rw [List.getD_eq_getElem?_getD] at h
 cases e : s.t[c]? with
 | none => rfl
 | some q =>
   rw [e] at h
   simp only [Option.getD_some] at h
   simp only
   split
   · rfl
   · first | rfl | (rw [if_neg h])
theorem clus_hole {s : ImS} {c : Nat} {y : List UInt8} (hc : c < s.t.length) (h : (s.t.getD c s0).1 = 0) (hy : y.length = wid s) : clus s c (some y) = y := by
 unfold clus
 rw [List.getD_eq_getElem?_getD] at h
 rw [List.getElem?_eq_getElem hc] at h ⊢
 simp only [Option.getD_some] at h
 simp only
 rw [if_neg (by rw [h]; decide), if_pos h, if_pos hy]
/-- What a disk reads in a cluster: its image's, with what is below told for Holes. -/
theorem cseen_clus (h : CS bits room L) (hd : dk L nm = some d) {c : Nat} (hc : c < d.im.t.length) : cseen bits L nm (dpt L nm) c = clus d.im c (some (belY bits L nm (dpt L nm) c)) := by
 by_cases hk : (d.im.t.getD c s0).1 = 0
 · rw [cseen_hole hd (fun hh => hh.2 hk), clus_hole hc hk (by rw [belY_len h hd, wid_eq h hd])]
 · rw [clus_some hk]
   unfold cseen
   rw [seenL_head hd ⟨hc, hk⟩]
/-- .. behind a change of the image. -/
theorem cseen_lim2 (h : CS bits room L) (hd : dk L nm = some d) {im : ImS} (hs : Like d.im im) {c : Nat} (hc : c < d.im.t.length) : cseen bits (lim L nm im none) nm (dpt (lim L nm im none) nm) c = clus im c (some (belY bits L nm (dpt L nm) c)) := by
 have h' := h.lim hd hs
 have hd' := dk_lim_self hd im none
 rw [cseen_clus h' hd' (by show c < im.t.length; rw [hs.tl]; exact hc), dpt_lim h nm im none nm]
 show clus im c (some _) = _
 have e : belY bits (lim L nm im none) nm (dpt L nm) c = belY bits L nm (dpt L nm) c := by
   unfold belY
   rw [bl_lim, seenL_lim _ _ (bl_self (h.dep nm).1)]
 rw [e]
theorem cseen_lim_far (h : CS bits room L) (hd : dk L nm = some d) {im : ImS} (hs : Like d.im im) {c : Nat} (hc : ¬ c < d.im.t.length) : cseen bits (lim L nm im none) nm (dpt (lim L nm im none) nm) c = cseen bits L nm (dpt L nm) c := by
 have hd' := dk_lim_self hd im none
 rw [dpt_lim h nm im none nm, cseen_lim hd (h.dep nm).1, if_neg fun hh => hc (by rw [← hs.tl]; exact hh.1), cseen_hole hd fun hh => hc hh.1]
theorem clus_lenS (h : CS bits room L) (hd : dk L nm = some d) {c : Nat} (hc : c < d.im.t.length) (y : Option (List UInt8)) : (clus d.im c y).length = 16 * 2 ^ bits := by
 rw [clus_len (h.ims d (dk_get hd).1).1 hc, wid_eq h hd]
end
/-! ### pieces of a disk's clusters -/
theorem pc_range {W a l : Nat} (hW : isW W) (hl : 0 < l) {c : Nat} : (16 * a / W ≤ c ∧ c < 16 * a / W + pcN W a l) ↔ (16 * a < (c + 1) * W ∧ c * W < 16 * (a + l)) := by
 have hp : 0 < W := by rcases hW with h | h | h | h <;> omega
 have k1 : 16 * a / W ≤ c ↔ 16 * a < (c + 1) * W := by
   rw [← Nat.lt_succ_iff, Nat.succ_eq_add_one, Nat.div_lt_iff_lt_mul hp]
 constructor
 · rintro ⟨h1, h2⟩
   have := (pcN_iff hW (a := a) (l := l) (k := c - 16 * a / W)).2 (by omega)
   rw [show 16 * a / W + (c - 16 * a / W) = c by omega] at this
   exact ⟨k1.1 h1, this.2⟩
 · rintro ⟨h1, h2⟩
   have h1 := k1.2 h1
   refine ⟨h1, ?_⟩
   have := (pcN_iff hW (a := a) (l := l) (k := c - 16 * a / W)).1 ⟨hl, by rw [show 16 * a / W + (c - 16 * a / W) = c by omega]; exact h2⟩
   omega
/-- A cluster behind a piece of it was laid over, sector by sector. -/
theorem sec_piece {X bs : List UInt8} {b a l c : Nat} (hb : b ≤ 3) (hX : X.length = 16 * 2 ^ b) (hbs : bs.length = 16 * l) (hin : 16 * a < (c + 1) * (16 * 2 ^ b) ∧ c * (16 * 2 ^ b) < 16 * (a + l)) {j : Nat} (hj : j < 2 ^ b) :
   sec (laid X (pce (16 * 2 ^ b) a l (c - 16 * a / (16 * 2 ^ b))).a ((pce (16 * 2 ^ b) a l (c - 16 * a / (16 * 2 ^ b))).b - (pce (16 * 2 ^ b) a l (c - 16 * a / (16 * 2 ^ b))).a) (bsP bs (pce (16 * 2 ^ b) a l (c - 16 * a / (16 * 2 ^ b))))) j =
     if a ≤ c * 2 ^ b + j ∧ c * 2 ^ b + j < a + l then sec bs (c * 2 ^ b + j - a) else sec X j := by
 have hp := pow_le8 hb
 have hW : 0 < 16 * 2 ^ b := by omega
 have hc : 16 * a / (16 * 2 ^ b) ≤ c := by
   rw [← Nat.lt_succ_iff, Nat.succ_eq_add_one, Nat.div_lt_iff_lt_mul hW]
   exact hin.1
 have hcc : 16 * a / (16 * 2 ^ b) + (c - 16 * a / (16 * 2 ^ b)) = c := by omega
 have ht : c * (16 * 2 ^ b) = 16 * (c * 2 ^ b) := Nat.mul_left_comm ..
 have ht2 : (c + 1) * (16 * 2 ^ b) = 16 * (c * 2 ^ b) + 16 * 2 ^ b := by rw [Nat.succ_mul, ht]
 unfold bsP
 refine sec_laid (t := c * 2 ^ b) (W := 16 * 2 ^ b) hX hbs (by omega) ?_ ?_ ?_ ?_ (by omega)
 · show 16 * a - (16 * a / (16 * 2 ^ b) + (c - 16 * a / (16 * 2 ^ b))) * (16 * 2 ^ b) = _
   rw [hcc, ht]
 · show min (16 * (a + l) - (16 * a / (16 * 2 ^ b) + (c - 16 * a / (16 * 2 ^ b))) * (16 * 2 ^ b)) (16 * 2 ^ b) = _
   rw [hcc, ht]
 · show (16 * a / (16 * 2 ^ b) + (c - 16 * a / (16 * 2 ^ b))) * (16 * 2 ^ b) + (16 * a - (16 * a / (16 * 2 ^ b) + (c - 16 * a / (16 * 2 ^ b))) * (16 * 2 ^ b)) - 16 * a = 16 * (c * 2 ^ b) + (16 * a - (16 * a / (16 * 2 ^ b) + (c - 16 * a / (16 * 2 ^ b))) * (16 * 2 ^ b)) - 16 * a
   rw [hcc, ht]
 · show 16 * a - (16 * a / (16 * 2 ^ b) + (c - 16 * a / (16 * 2 ^ b))) * (16 * 2 ^ b) ≤ min (16 * (a + l) - (16 * a / (16 * 2 ^ b) + (c - 16 * a / (16 * 2 ^ b))) * (16 * 2 ^ b)) (16 * 2 ^ b)
   rw [hcc, ht]
   omega
/-! ### Write -/
section
variable {bits room : Nat} {L : List Dsk} {nm : List UInt8}
theorem wrC_inv {a : Int} {bs : List UInt8} (he : (wrC bits L nm a bs).e = 0) : ∃ d, dk L nm = some d ∧ bs.length = 16 * (bs.length / 16) ∧ a = ((a.toNat : Nat) : Int) ∧ iIns d.im a.toNat ((bs.length / 16 : Nat) : Int) = 0 ∧ ndK d.im a.toNat (bs.length / 16) (pcN (wid d.im) a.toNat (bs.length / 16)) ≤ zeros d.im.l ∧
   (wrC bits L nm a bs).L = lim L nm (iwrK d.im a.toNat (bs.length / 16) bs (belY bits L nm (dpt L nm)) (pcN (wid d.im) a.toNat (bs.length / 16))) none := by
 unfold wrC at he ⊢
 cases h0 : dk L nm with
 | none => rw [h0] at he; exact absurd he (show ¬ (140 : Int) = 0 by decide)
 | some d =>
   rw [h0] at he
   simp only at he ⊢
   split at he
   · exact absurd he (show ¬ (1 : Int) = 0 by decide)
   · rename_i h1
     split at he
     · rename_i h2; exact absurd he h2
     · rename_i h2
       rw [if_neg h1, if_neg h2]
       have h2 : iIns d.im a ((bs.length / 16 : Nat) : Int) = 0 := Decidable.byContradiction h2
       have e1 := (iIns_pos h2).1
       have he : iwE d.im a.toNat (bs.length / 16) = 0 := he
       unfold iwE at he
       split at he
       · rename_i h3
         refine ⟨d, rfl, by omega, e1, by rw [← e1]; exact h2, h3, ?_⟩
         show lim L nm (iwS d.im a.toNat (bs.length / 16) bs _) none = _
         unfold iwS
         rw [if_pos h3]
       · exact absurd he (by decide)
/-- What was written is read; all else is as it was. -/
theorem wr_sector (h : CS bits room L) {a : Int} {bs : List UInt8} (he : (wrC bits L nm a bs).e = 0) (s : Nat) :
   crdP bits (wrC bits L nm a bs).L nm (dpt (wrC bits L nm a bs).L nm) s = if a.toNat ≤ s ∧ s < a.toNat + bs.length / 16 then sec bs (s - a.toNat) else crdP bits L nm (dpt L nm) s := by
 obtain ⟨d, hd, hbl, ha, hin, hnd, hL⟩ := wrC_inv he
 rw [hL]
 obtain ⟨hO, hbt, _⟩ := h.ims d (dk_get hd).1
 have hall := iIns_all hin
 have hW := wid_isW hO.bits
 have hwi := wid_eq h hd
 have hp := pow_le8 h.b3
 generalize a.toNat = a0 at *
 have hI := (wrI hO hbl hall (belY bits L nm (dpt L nm)) hnd _ (Nat.le_refl _)).1
 have hpos : 0 < 2 ^ bits := by omega
 have hj : s % 2 ^ bits < 2 ^ bits := Nat.mod_lt _ hpos
 have hs : s / 2 ^ bits * 2 ^ bits + s % 2 ^ bits = s := by rw [Nat.mul_comm]; exact Nat.div_add_mod s _
 have hia : iall d.im = d.im.t.length * 2 ^ bits := iall_one h hd
 rw [crdP_sec, crdP_sec]
 by_cases hc : s / 2 ^ bits < d.im.t.length
 · rw [cseen_lim2 h hd hI.like hc, cseen_clus h hd hc]
   have hX := clus_lenS h hd hc (some (belY bits L nm (dpt L nm) (s / 2 ^ bits)))
   by_cases hr : 16 * a0 / wid d.im ≤ s / 2 ^ bits ∧ s / 2 ^ bits < 16 * a0 / wid d.im + pcN (wid d.im) a0 (bs.length / 16)
   · have hl0 : 0 < bs.length / 16 := by
       refine Nat.pos_of_ne_zero fun e => ?_
       rw [e] at hr
       have : pcN (wid d.im) a0 0 = 0 := rfl
       omega
     have hdn := (hI.done (s / 2 ^ bits - 16 * a0 / wid d.im) (by omega)).2 (some (belY bits L nm (dpt L nm) (s / 2 ^ bits)))
     rw [show 16 * a0 / wid d.im + (s / 2 ^ bits - 16 * a0 / wid d.im) = s / 2 ^ bits by omega] at hdn
     rw [hdn]
     have hin2 := (pc_range hW hl0).1 hr
     rw [hwi] at hin2 ⊢
     rw [sec_piece h.b3 hX hbl hin2 hj, hs]
   · have hsm := (hI.far (s / 2 ^ bits) (by omega)).2 (some (belY bits L nm (dpt L nm) (s / 2 ^ bits)))
     rw [hsm, if_neg]
     rintro ⟨g1, g2⟩
     apply hr
     refine (pc_range hW (by omega)).2 ?_
     rw [hwi]
     have e1 : (s / 2 ^ bits + 1) * (16 * 2 ^ bits) = 16 * (s / 2 ^ bits * 2 ^ bits) + 16 * 2 ^ bits := by rw [Nat.succ_mul, Nat.mul_left_comm]
     have e2 : s / 2 ^ bits * (16 * 2 ^ bits) = 16 * (s / 2 ^ bits * 2 ^ bits) := Nat.mul_left_comm ..
     rw [e1, e2]
     omega
 · rw [cseen_lim_far h hd hI.like hc, if_neg]
   rintro ⟨g1, g2⟩
   apply hc
   rw [Nat.div_lt_iff_lt_mul hpos, ← hia]
   omega
end
/-! ### Zero -/
theorem laid_zero {n off m : Nat} (h : off + m ≤ n) : laid (List.replicate n 0) off m (zerB m) = List.replicate n (0 : UInt8) := by
 refine List.ext_getElem? fun i => ?_
 rw [laid_get (by rw [List.length_replicate]; exact h) List.length_replicate]
 simp only [List.getElem?_replicate]
 split
 · rfl
 · split
   · rw [if_pos (by omega), if_pos (by omega)]
   · rfl
theorem laid_all {X : List UInt8} {n : Nat} (h : X.length = n) : laid X 0 n (zerB n) = List.replicate n (0 : UInt8) := by
 unfold laid
 rw [List.take_zero, List.nil_append, List.take_of_length_le (by rw [List.length_replicate]; exact Nat.le_refl _), List.length_replicate, List.drop_eq_nil_of_le (by omega), List.append_nil]
theorem clus_zr {s : ImS} {c : Nat} (h : s.t[c]? = some sZr) (z : Option (List UInt8)) : clus s c z = zer s := by
 unfold clus
 rw [h]
 rfl
theorem zr_done {s : ImS} (hO : ImOK s) {a l : Nat} (hall : a + l ≤ iall s) (y : Nat → List UInt8) (hnd : zdK s a l (pcN (wid s) a l) ≤ zeros s.l) : ∀ k, k ≤ pcN (wid s) a l → ∀ j, j < k →
   clus (izrK s a l y k) (16 * a / wid s + j) (some (y (16 * a / wid s + j))) = laid (clus s (16 * a / wid s + j) (some (y (16 * a / wid s + j)))) (pce (wid s) a l j).a ((pce (wid s) a l j).b - (pce (wid s) a l j).a) (zerB ((pce (wid s) a l j).b - (pce (wid s) a l j).a))
 | 0, _, j, hj => absurd hj (by omega)
 | k + 1, hk, j, hj => by
   have h := zrI hO hall y hnd k (by omega)
   have hk2 : k < pcN (wid s) a l := by omega
   obtain ⟨hc, _⟩ := pce_c hO hall hk2
   obtain ⟨p1, p2, p3, p4⟩ := pce_ok (wid_isW hO.bits) hk2
   have hpc : (pce (wid s) a l k).c = 16 * a / wid s + k := rfl
   have hc2 : (pce (wid s) a l k).c < (izrK s a l y k).t.length := by rw [h.like.tl]; exact hc
   have hsame := h.far (16 * a / wid s + k) (.inr (Nat.le_refl _))
   have e1 : izrK s a l y (k + 1) = zpS (izrK s a l y k) (pce (wid s) a l k) (y (pce (wid s) a l k).c) := rfl
   unfold zpS at e1
   rw [whole_like h.like] at e1
   have hlen := clus_len hO (c := 16 * a / wid s + k) hc (some (y (16 * a / wid s + k)))
   have hzer : zer (izrK s a l y k) = zer s := by unfold zer; rw [h.like.wid]
   have ih : j < k → _ := zr_done hO hall y hnd k (by omega) j
   by_cases hw : isWhole s (pce (wid s) a l k) = true
   · rw [if_pos hw] at e1
     have hp := iset_law h.like.ok (c := (pce (wid s) a l k).c) hc2 (q := sZr) (.inr rfl)
     rw [← e1] at hp
     by_cases hjk : j < k
     · rw [(hp.far (16 * a / wid s + j) (by rw [hpc]; omega)).2]
       exact ih hjk
     · have : j = k := by omega
       subst this
       have hw : (pce (wid s) a l j).b - (pce (wid s) a l j).a = wid s := of_decide_eq_true hw
       have h5 := clus_zr hp.there (some (y (16 * a / wid s + j)))
       rw [hpc] at h5
       rw [h5, hw, show (pce (wid s) a l j).a = 0 by omega, laid_all hlen]
       unfold zer
       rw [hp.like.wid, h.like.wid]
   · have hw : isWhole s (pce (wid s) a l k) = false := by simpa using hw
     rw [hw, if_neg (by decide)] at e1
     by_cases h2 : ((izrK s a l y k).t.getD (pce (wid s) a l k).c s0).1 = 2
     · rw [if_pos h2] at e1
       rw [e1]
       by_cases hjk : j < k
       · exact ih hjk
       · have : j = k := by omega
         subst this
         rw [hsame.2]
         have h3 : (s.t.getD (16 * a / wid s + j) s0).1 = 2 := by
           rw [List.getD_eq_getElem?_getD] at h2 ⊢
           rw [show (izrK s a l y j).t[(pce (wid s) a l j).c]? = s.t[16 * a / wid s + j]? from hsame.1] at h2
           exact h2
         have h4 : s.t[16 * a / wid s + j]? = some sZr := by
           rw [List.getD_eq_getElem?_getD] at h3
           cases e : s.t[16 * a / wid s + j]? with
           | none => rw [e] at h3; exact absurd h3 (by decide)
           | some q =>
             rw [e] at h3
             have h3 : q.1 = 2 := h3
             rcases hO.slot _ _ e with g | g | ⟨hh, g, _⟩
             · rw [g] at h3
               exact absurd h3 (by decide)
             · rw [g]
             · rw [g] at h3
               exact absurd h3 (show ¬ (1 : Int) = 2 by decide)
         rw [clus_zr h4]
         unfold zer
         rw [laid_zero (by omega)]
     · rw [if_neg h2] at e1
       have hp := iput_law (y := y (pce (wid s) a l k).c) (bs := zerB ((pce (wid s) a l k).b - (pce (wid s) a l k).a)) h.like.ok hc2 p1 (by rw [h.like.wid]; exact p2) List.length_replicate (zrHz hnd h hk2 hw h2)
       rw [← e1] at hp
       by_cases hjk : j < k
       · rw [(hp.far (16 * a / wid s + j) (by rw [hpc]; omega)).2]
         exact ih hjk
       · have : j = k := by omega
         subst this
         have := hp.there (some (y (16 * a / wid s + j)))
         rw [hpc] at this
         rw [this, hsame.2]
section
variable {bits room : Nat} {L : List Dsk} {nm : List UInt8}
theorem zrC_inv {a l : Int} (he : (zrC bits L nm a l).e = 0) : ∃ d, dk L nm = some d ∧ a = ((a.toNat : Nat) : Int) ∧ l = ((l.toNat : Nat) : Int) ∧ iIns d.im a.toNat l.toNat = 0 ∧ zdK d.im a.toNat l.toNat (pcN (wid d.im) a.toNat l.toNat) ≤ zeros d.im.l ∧
   (zrC bits L nm a l).L = lim L nm (izrK d.im a.toNat l.toNat (belY bits L nm (dpt L nm)) (pcN (wid d.im) a.toNat l.toNat)) none := by
 unfold zrC at he ⊢
 cases h0 : dk L nm with
 | none => rw [h0] at he; exact absurd he (show ¬ (140 : Int) = 0 by decide)
 | some d =>
   rw [h0] at he
   simp only at he ⊢
   split at he
   · rename_i h2; exact absurd he h2
   · rename_i h2
     rw [if_neg h2]
     have h2 : iIns d.im a l = 0 := Decidable.byContradiction h2
     obtain ⟨e1, e2⟩ := iIns_pos h2
     have he : izE d.im a.toNat l.toNat = 0 := he
     unfold izE at he
     split at he
     · rename_i h3
       refine ⟨d, rfl, e1, e2, by rw [← e1, ← e2]; exact h2, h3, ?_⟩
       show lim L nm (izS d.im a.toNat l.toNat _) none = _
       unfold izS
       rw [if_pos h3]
     · exact absurd he (by decide)
theorem zr_sector (h : CS bits room L) {a l : Int} (he : (zrC bits L nm a l).e = 0) (s : Nat) :
   crdP bits (zrC bits L nm a l).L nm (dpt (zrC bits L nm a l).L nm) s = if a.toNat ≤ s ∧ s < a.toNat + l.toNat then List.replicate 16 0 else crdP bits L nm (dpt L nm) s := by
 obtain ⟨d, hd, ha, hl, hin, hnd, hL⟩ := zrC_inv he
 rw [hL]
 obtain ⟨hO, hbt, _⟩ := h.ims d (dk_get hd).1
 have hall := iIns_all hin
 have hW := wid_isW hO.bits
 have hwi := wid_eq h hd
 have hp := pow_le8 h.b3
 generalize a.toNat = a0 at *
 generalize l.toNat = l0 at *
 have hI := zrI hO hall (belY bits L nm (dpt L nm)) hnd _ (Nat.le_refl _)
 have hdone := zr_done hO hall (belY bits L nm (dpt L nm)) hnd _ (Nat.le_refl _)
 have hpos : 0 < 2 ^ bits := by omega
 have hj : s % 2 ^ bits < 2 ^ bits := Nat.mod_lt _ hpos
 have hs : s / 2 ^ bits * 2 ^ bits + s % 2 ^ bits = s := by rw [Nat.mul_comm]; exact Nat.div_add_mod s _
 have hia : iall d.im = d.im.t.length * 2 ^ bits := iall_one h hd
 rw [crdP_sec, crdP_sec]
 by_cases hc : s / 2 ^ bits < d.im.t.length
 · rw [cseen_lim2 h hd hI.like hc, cseen_clus h hd hc]
   have hX := clus_lenS h hd hc (some (belY bits L nm (dpt L nm) (s / 2 ^ bits)))
   by_cases hr : 16 * a0 / wid d.im ≤ s / 2 ^ bits ∧ s / 2 ^ bits < 16 * a0 / wid d.im + pcN (wid d.im) a0 l0
   · have hl0 : 0 < l0 := by
       refine Nat.pos_of_ne_zero fun e => ?_
       rw [e] at hr
       have : pcN (wid d.im) a0 0 = 0 := rfl
       omega
     have hdn := hdone (s / 2 ^ bits - 16 * a0 / wid d.im) (by omega)
     rw [show 16 * a0 / wid d.im + (s / 2 ^ bits - 16 * a0 / wid d.im) = s / 2 ^ bits by omega] at hdn
     rw [hdn]
     have hin2 := (pc_range hW hl0).1 hr
     have hpk : s / 2 ^ bits - 16 * a0 / wid d.im < pcN (wid d.im) a0 l0 := by omega
     obtain ⟨p1, p2, p3, p4⟩ := pce_ok hW hpk
     have hbsP : zerB ((pce (wid d.im) a0 l0 (s / 2 ^ bits - 16 * a0 / wid d.im)).b - (pce (wid d.im) a0 l0 (s / 2 ^ bits - 16 * a0 / wid d.im)).a) = bsP (List.replicate (16 * l0) 0) (pce (wid d.im) a0 l0 (s / 2 ^ bits - 16 * a0 / wid d.im)) := by
       unfold bsP
       rw [List.take_replicate, List.drop_replicate]
       congr 1
       omega
     rw [hbsP]
     rw [hwi] at hin2 ⊢
     rw [sec_piece h.b3 hX List.length_replicate hin2 hj, hs]
     split
     · rw [sec_zero _ _ (by omega)]
     · rfl
   · have hsm := (hI.far (s / 2 ^ bits) (by omega)).2 (some (belY bits L nm (dpt L nm) (s / 2 ^ bits)))
     rw [hsm, if_neg]
     rintro ⟨g1, g2⟩
     apply hr
     refine (pc_range hW (by omega)).2 ?_
     rw [hwi]
     have e1 : (s / 2 ^ bits + 1) * (16 * 2 ^ bits) = 16 * (s / 2 ^ bits * 2 ^ bits) + 16 * 2 ^ bits := by rw [Nat.succ_mul, Nat.mul_left_comm]
     have e2 : s / 2 ^ bits * (16 * 2 ^ bits) = 16 * (s / 2 ^ bits * 2 ^ bits) := Nat.mul_left_comm ..
     rw [e1, e2]
     omega
 · rw [cseen_lim_far h hd hI.like hc, if_neg]
   rintro ⟨g1, g2⟩
   apply hc
   rw [Nat.div_lt_iff_lt_mul hpos, ← hia]
   omega
end
end Go.Proofs.YtojaemgabaehdaaGreat
/-!
  Pulls, in plain words: what is between, the next cluster, a step; what a step leaves.
-/
namespace Go.Proofs.YtojaemgabaehdaaGreat
set_option linter.unusedVariables false
set_option linter.unusedSimpArgs false
set_option maxRecDepth 10000
open Go.RowKit Go.Proofs
/-! ### room: each cluster that is in use stands in one place of the table -/
/-! ### one cluster is written -/
section
variable {bits room : Nat} {L : List Dsk} {nm : List UInt8}
theorem wrC_err {a : Int} {bs : List UInt8} (h : CS bits room L) (he : (wrC bits L nm a bs).e ≠ 0) : (wrC bits L nm a bs).L = L := by
 unfold wrC at he ⊢
 cases h0 : dk L nm with
 | none => rfl
 | some d =>
   rw [h0] at he
   simp only at he ⊢
   split at he
   · rename_i h1; rw [if_pos h1]
   · rename_i h1
     rw [if_neg h1]
     split at he
     · rename_i h2; rw [if_pos h2]
     · rename_i h2
       rw [if_neg h2]
       have he : iwE d.im a.toNat (bs.length / 16) ≠ 0 := he
       unfold iwE at he
       split at he
       · exact absurd rfl he
       · rename_i h3
         show lim L nm (iwS d.im a.toNat (bs.length / 16) bs _) none = L
         unfold iwS
         rw [if_neg h3, lim_self h.nms h0 (h.unp d (dk_get h0).1)]
theorem zrC_err {a l : Int} (h : CS bits room L) (he : (zrC bits L nm a l).e ≠ 0) : (zrC bits L nm a l).L = L := by
 unfold zrC at he ⊢
 cases h0 : dk L nm with
 | none => rfl
 | some d =>
   rw [h0] at he
   simp only at he ⊢
   split at he
   · rename_i h2; rw [if_pos h2]
   · rename_i h2
     rw [if_neg h2]
     have he : izE d.im a.toNat l.toNat ≠ 0 := he
     unfold izE at he
     split at he
     · exact absurd rfl he
     · rename_i h3
       show lim L nm (izS d.im a.toNat l.toNat _) none = L
       unfold izS
       rw [if_neg h3, lim_self h.nms h0 (h.unp d (dk_get h0).1)]
end
/-! ### the way down -/
def szOf (L : List Dsk) (nm : List UInt8) : Nat := match dk L nm with
 | none => 0
 | some d => d.im.t.length
section
variable {bits room : Nat} {L : List Dsk} {nm : List UInt8}
theorem szOf_lim (L : List Dsk) {t n : List UInt8} {d : Dsk} {im : ImS} (hd : dk L t = some d) (hs : Like d.im im) : szOf (lim L t im none) n = szOf L n ∧ (dk (lim L t im none) n).isSome = (dk L n).isSome := by
 by_cases e : n = t
 · subst e
   unfold szOf
   rw [dk_lim_self hd, hd]
   exact ⟨hs.tl, rfl⟩
 · unfold szOf
   rw [dk_lim_ne e]
   exact ⟨rfl, rfl⟩
end
/-! ### what is between stands between -/
section
variable {bits room : Nat} {L : List Dsk} {top base : List UInt8}
end
end Go.Proofs.YtojaemgabaehdaaGreat
/-!
  Maps of numbers: their keys, collected; cleared; maps of functions.
-/
namespace Go.Proofs.YtojaemgabaehdaaGreat
set_option linter.unusedVariables false
set_option linter.unusedSimpArgs false
set_option maxRecDepth 10000
open Go.RowKit Go.Proofs Go.Maps Go.Shelf Go.MapKept
open Go.WideElems (Fit rd rg pl rd_val rd_key rg_of)
/-! ### the least of some numbers -/
/-! ### clear -/
section
variable {P : Program} {N : Nat} {ids : List Nat} {K : KL} {B : BL}
/-! ### maps of functions -/
theorem OpOK.turnR {o : Oper} {c : Nat} {rc : List Nat} {ch0 ch : Ch} (hc : lookB B c = some ch0)
   (h : ∀ (K' : KL) (B' : BL), (∀ x, x ∈ o.op.operands → opv K' x = opv K x) → (∀ d, d ∈ rc → lookB B' d = lookB B d) → ∀ (C : Ctx) (ρ : Nat → Pl) (F : Nat → Nat → Prop) (a : Act) (w : World), Mem ids C B' ρ F w → Slots K' ρ (Imm C B' F w) a w → lookB B' c = some ch0 → ∃ w', (execOp a.eval o).run P w = .ok .skip w' ∧ Fr (F c) w w' ∧
       (∀ I, Ext (Imm C B' F w) w I w' → Holds ρ I (F c) w' (ρ c) ch)) :
   OpOK P N ids o K B .undef ⟨c :: rc, [], [(c, some ch)]⟩ := by
 rintro K' B' h1 h2 - C a w ⟨hn, hd, ρ, F, hM, hS⟩ hlt Kn Q hK
 have hc' : lookB B' c = some ch0 := (h2 c (by simp)).trans hc
 obtain ⟨w', hx, hfr, hH⟩ := h K' B' h1 (fun d hd => h2 d (List.mem_cons_of_mem _ hd)) C ρ F a w hM hS hc'
 obtain ⟨hM', he⟩ := hM.turn hc' hfr hH
 unfold Oper.wp
 rw [hx, Oper.upon_skip]
 exact hK _ _ ⟨put_size.trans hn, put_defers.trans hd, ρ, F, hM', (hS.mono he fun _ _ _ => rfl).putO (fun e he => by rw [hn]; exact hlt e he) rfl⟩
/-- A map of functions, as an object. -/
def wayO (es : List (El uI × El .fn)) : Ob where
 R := fun I F w p => Holds (fun _ => ⟨0, none, 0, 0⟩) I F w p (.map uI .fn es)
 stable := fun I F w I' w' p h he hF hz => Holds.stable he hF hz _ (fun _ _ => rfl) h
def isWay (es : List (El uI × El .fn)) (ch : Ch) : Prop := ch = .map uI .fn es ∨ ch = .obj (wayO es)
theorem isWay.holds {es : List (El uI × El .fn)} {ch : Ch} (h : isWay es ch) {ρ : Nat → Pl} {I F : Nat → Prop} {w : World} {p : Pl} : Holds ρ I F w p ch ↔ (∀ b, F b ↔ b = p.blk) ∧ ∃ ents clock, w.heap[p.blk]? = some (.map (List.toArray ents) clock) ∧ MapU I w uI .fn es ents ∧ Births ents clock := by
 rcases h with rfl | rfl
 · exact Iff.rfl
 · exact Iff.rfl
theorem denE_fn {I : Nat → Prop} {w : World} {x : El .fn} {v : Value} (h : DenE I w .fn x v) : v = fnV x := by
 have h1 := h.2.1.1 rfl
 have h2 := h.2.2
 rw [h1] at h2
 have h2 : some v = some (fnV x) := h2
 injection h2
end
/-! What is left of a job: numbers as the keys of a map. -/
/-! ### what is left: cells of a map -/
end Go.Proofs.YtojaemgabaehdaaGreat
/-!
  Maps of functions without captures.
-/
namespace Go.Proofs.YtojaemgabaehdaaGreat
set_option linter.unusedVariables false
set_option linter.unusedSimpArgs false
open Go.RowKit Go.Proofs
open Go.ChangeMaps (setBlock map_eraseIdx)
section
variable {P : Program} {ids : List Nat} {K : KL} {B : BL}
theorem opOK_insFn0 {o : Oper} {T kt et : TypeId} {x i v : Operand} {c f : Nat} (ho : o.op = .insert T x i v) (hT : P.underlying T = some (.map kt et)) (hkt : P.underlying kt = some (.int .i64)) {es : List (El uI × El .fn)} {ch ch' : Ch} (hx : opv K x = .c (.one (.mp c))) {key : Int} (hk : opv K i = .c (.one (.d (.int .i64 key))))
   (hv : opv K v = .c (.one (.clo f []))) (hc : lookB B c = some ch) (hw : isWay es ch) (hw' : isWay (mput (ku := uI) (vu := .fn) es key (f, [])) ch') (N : Nat) : OpOK P N ids o K B .undef ⟨[c], [], [(c, some ch')]⟩ := by
 have n1 : x ∈ o.op.operands := by rw [ho]; simp [Op.operands]
 have n2 : i ∈ o.op.operands := by rw [ho]; simp [Op.operands]
 have n3 : v ∈ o.op.operands := by rw [ho]; simp [Op.operands]
 refine OpOK.turnR hc fun K' B' g1 g2 C ρ F a w hM hS hl' => ?_
 obtain ⟨hF, ents, clock, hb, hm, hB⟩ := hw.holds.1 (hM.holds c _ hl')
 have e1 := hS.mp ((g1 x n1).trans hx)
 have e2 : a.eval i = .int .i64 key := hS.int ((g1 i n2).trans hk)
 have e3 : a.eval v = fnV (f, []) := by
   have h := hS.ev ((g1 v n3).trans hv)
   obtain ⟨vs, e, q⟩ := h
   have q : vs = [] := q
   rw [e, q]
   rfl
 have hD : DenE (Imm C B' F w) w .fn (f, []) (fnV (f, [])) := ⟨rfl, ⟨fun _ => rfl, fun e => by cases e⟩, rfl⟩
 obtain ⟨es', clock', hr, hm', hB'⟩ := update_run (P := P) (ku := uI) (vu := .fn) hT hkt rfl hb hm hB key hD
 have hlt := lt_of_heap hb
 refine ⟨{ w with heap := w.heap.setIfInBounds (ρ c).blk (.map (List.toArray es') clock') }, ?_, map_fr ((hF _).2 rfl), fun I hE => hw'.holds.2 ⟨hF, es', clock', by simp [hlt], hm'.mono hE, hB'⟩⟩
 have hr : (Instr.mapUpdate T (.map (some (ρ c).blk)) (.int .i64 key) (fnV (f, []))).run P w = .ok () { w with heap := w.heap.setIfInBounds (ρ c).blk (.map (List.toArray es') clock') } := hr
 simp only [execOp, ho, Sem.run_bind, e1, e2, e3, hr, Result.andThen_ok, Sem.run_pure]
theorem opOK_getFn1 {o : Oper} {T kt et : TypeId} {x i : Operand} {c : Nat} (ho : o.op = .lookup T x i false) (hT : P.underlying T = some (.map kt et)) (hkt : P.underlying kt = some (.int .i64)) {es : List (El uI × El .fn)} (hx : opv K x = .c (.one (.mp c))) {key : Int} (hk : opv K i = .c (.one (.d (.int .i64 key))))
   (hc : lookB B c = some (.obj (wayO es))) {f : Nat} (hr : mget (ku := uI) (vu := .fn) es key = some (f, [])) (N : Nat) : OpOK P N ids o K B (.c (.one (.clo f []))) ⟨[c], [], []⟩ := by
 have n1 : x ∈ o.op.operands := by rw [ho]; simp [Op.operands]
 have n2 : i ∈ o.op.operands := by rw [ho]; simp [Op.operands]
 refine OpOK.val fun K' B' g1 g2 C ρ F a w hM hS => ?_
 obtain ⟨hF, ents, clock, hb, hm, hB⟩ := (isWay.holds (.inr rfl)).1 (hM.holds c _ ((g2 c (by simp)).trans hc))
 have e1 := hS.mp ((g1 x n1).trans hx)
 have e2 : a.eval i = .int .i64 key := hS.int ((g1 i n2).trans hk)
 have hck := fun e => MapKept.run_checkKey (P := P) (w := w) hkt (keyD_isKey (ku := uI) (d := .int .i64) rfl key) e 9999
 rcases findNow_map (I := Imm C B' F w) (w := w) (ku := uI) (vu := .fn) (d := .int .i64) rfl key es ents 0 hm with ⟨a1, a2, _⟩ | ⟨j, y, e, a1, a2, _, _, a5, _⟩
 · rw [a2] at hr; cases hr
 · have hf := MapKept.run_findKey (P := P) (w := w) hkt a1
   have hy := denE_fn a5
   rw [a2] at hr
   injection hr with hr
   subst hr
   refine ⟨fnV (f, []), ?_, ⟨_, rfl, rfl⟩⟩
   have hr : (Instr.lookup T (.map (some (ρ c).blk)) (.int .i64 key) false).run P w = .ok (fnV (f, [])) w := by
     simp only [keyV] at hck hf
     simp [Instr.lookup, run_underlying hT, MapKept.run_getObj_map hb, hck, hf, Result.andThen, hy]
   simp only [execOp, ho, Sem.run_bind, e1, e2, hr, Result.andThen_ok, Sem.run_pure]
end
end Go.Proofs.YtojaemgabaehdaaGreat
/-!
  Export: read, answer, Serve.
-/
namespace Go.Proofs.YtojaemgabaehdaaGreat
set_option linter.unusedVariables false
set_option linter.unusedSimpArgs false
set_option maxRecDepth 10000
open Go.RowKit Go.Proofs
@[reducible] def svV (nm : List UInt8) : SV := .c (.agg [.ptr 1001 0, .d (.str nm), .ptr 1005 0])
@[reducible] def svB (bits room : Nat) (L : List Dsk) (o : Ob) : BL := [(1001, .cells (chC bits room)), (1002, .map .str .adr (chE L)), (1003, .obj (.pool (chD L))), (1004, .obj (.pool (chM L))), (1005, .obj o)]
@[reducible] def svR (bits room : Nat) (L : List Dsk) (o : Ob) (b : List UInt8) : BL := [(1001, .cells (chC bits room)), (1002, .map .str .adr (chE L)), (1003, .obj (.pool (chD L))), (1004, .obj (.pool (chM L))), (1005, .obj o), (1009, .row 5 .u8 b)]
def rdA (bits : Nat) (L : List Dsk) (nm : List UInt8) (r : Rq) : List UInt8 × Int := if 64 < rqL r then ([], 201) else rdC bits L nm (rqA r) (rqL r)
theorem rdC_err {bits : Nat} {L : List Dsk} {nm : List UInt8} {a l : Int} (h : (rdC bits L nm a l).2 ≠ 0) : (rdC bits L nm a l).1 = [] := by
 unfold rdC at h ⊢
 split
 · rfl
 · rename_i d hd
   rw [hd] at h
   simp only at h
   split
   · rename_i h2
     rw [if_pos h2] at h
     exact absurd rfl h
   · rfl
theorem rdA_err {bits : Nat} {L : List Dsk} {nm : List UInt8} {r : Rq} (h : (rdA bits L nm r).2 ≠ 0) : (rdA bits L nm r).1 = [] := by
 unfold rdA at h ⊢
 split
 · rfl
 · rename_i h1
   rw [if_neg h1] at h
   exact rdC_err h
theorem srd_fn {bits room : Nat} {L : List Dsk} (h : CS bits room L) (o : Ob) (nm : List UInt8) (r : Rq) : Fn Tryz.prog 223 [svV nm, rqV r] (svB bits room L o) [] (.tup [.one (.d (.lst .u8 (rdA bits L nm r).1)), vErr (rdA bits L nm r).2]) (svB bits room L o) := by
 have hr := chread_fn h nm (rqA r) (rqL r)
 refine Fn.of tblOK [] _ _ _ _ _ Tryz.func223 rfl rfl (by kernel_rfl) (by kernel_rfl) rfl (drawOK tblOK) rfl ?_
 refine ⟨rfl, rfl, ?_⟩
 refine ⟨fun hc => ?_, fun hc => ?_⟩
 · have hc : decide ((64 : Int) < rqL r) = true := hc
   have e : rdA bits L nm r = ([], 201) := by unfold rdA; rw [if_pos (of_decide_eq_true hc)]
   rw [e]
   exact ⟨_, _, _, Le.refl _ _, rfl, ⟨rfl, rfl, trivial⟩, ⟨rfl, rfl, rfl, rfl, rfl, trivial⟩, rfl⟩
 · have hc : decide ((64 : Int) < rqL r) = false := hc
   have e : rdA bits L nm r = rdC bits L nm (rqA r) (rqL r) := by unfold rdA; rw [if_neg (of_decide_eq_false hc)]
   rw [← e] at hr
   refine ⟨_, _, _, _, hr, ⟨rfl, rfl, rfl, rfl, trivial⟩, rfl, ?_⟩
   exact ⟨_, _, _, Le.refl _ _, rfl, ⟨rfl, rfl, trivial⟩, ⟨rfl, rfl, rfl, rfl, rfl, trivial⟩, rfl⟩
/-! ### answer -/
def srvF (k f : Nat) : Prop := (k = 1 ∧ f = 223) ∨ (k = 2 ∧ f = 224) ∨ (k = 3 ∧ f = 225)
@[reducible] def wy1 : List (El uI × El .fn) := mput (ku := uI) (vu := .fn) [] (1 : Int) (223, [])
@[reducible] def wy2 : List (El uI × El .fn) := mput (ku := uI) (vu := .fn) wy1 (2 : Int) (224, [])
@[reducible] def wy3 : List (El uI × El .fn) := mput (ku := uI) (vu := .fn) wy2 (3 : Int) (225, [])
theorem wy3_get {k f : Nat} (h : srvF k f) : mget (ku := uI) (vu := .fn) wy3 ((k : Nat) : Int) = some (f, []) := by
 rcases h with ⟨rfl, rfl⟩ | ⟨rfl, rfl⟩ | ⟨rfl, rfl⟩ <;> rfl
set_option maxHeartbeats 1000000 in
theorem answer_fn {bits room : Nat} {L : List Dsk} {o : Ob} {nm : List UInt8} {k f : Nat} (hf : srvF k f) {c h a l e : Int} {x : List UInt8}
   (hx : Fn Tryz.prog f [svV nm, rqV ((k : Int), c, h, a, l)] (svB bits room L o) [] (.tup [.one (.d (.lst .u8 x)), vErr e]) (svB bits room L o)) (hx0 : e ≠ 0 → x = []) (hl : x.length ≤ 1000000000) (hT : tellOK e h x = true) :
   Fn Tryz.prog 141 [svV nm, rqV ((k : Int), c, h, a, l)] (svB bits room L o) [1009] (vOwn 1009) (svR bits room L o (tellB e h x)) := by
 have hg := wy3_get hf
 have ht := tell_ok e h x hl hT
 refine Fn.of tblOK [] _ _ _ _ _ Tryz.func141 rfl rfl (by kernel_rfl) (by kernel_rfl) rfl (drawOK tblOK) rfl ?_
 refine ⟨rfl, rfl, ?_⟩
 refine ⟨rfl, ?_⟩
 refine ⟨_, _, fun N => opOK_insFn0 (ch' := .map uI .fn wy1) rfl Tryz.underlying335 Tryz.underlying3 rfl rfl rfl rfl (.inl rfl) (.inl rfl) N, rfl, ?_⟩
 refine ⟨_, _, fun N => opOK_insFn0 (ch' := .map uI .fn wy2) rfl Tryz.underlying335 Tryz.underlying3 rfl rfl rfl rfl (.inl rfl) (.inl rfl) N, rfl, ?_⟩
 refine ⟨_, _, fun N => opOK_insFn0 (ch' := .obj (wayO wy3)) rfl Tryz.underlying335 Tryz.underlying3 rfl rfl rfl rfl (.inl rfl) (.inr rfl) N, rfl, ?_⟩
 refine ⟨_, _, fun N => opOK_getFn1 rfl Tryz.underlying335 Tryz.underlying3 rfl rfl rfl hg N, rfl, ?_⟩
 refine ⟨_, _, _, _, hx, ⟨rfl, rfl, rfl, rfl, rfl, trivial⟩, rfl, ?_⟩
 refine ⟨fun hc => ?_, fun hc => ?_⟩
 · have hc : (!decide (e = 0)) = true := hc
   have hx1 : x = [] := hx0 (by simpa using hc)
   subst hx1
   refine ⟨_, _, _, _, Fn.arg (Fn.ren [(1001, 1009)] ht) ⟨⟨rfl, rfl, rfl, trivial⟩, trivial⟩, trivial, rfl, ?_⟩
   exact ⟨_, _, _, Le.refl _ _, rfl, rfl, ⟨rfl, rfl, rfl, rfl, rfl, rfl, trivial⟩, rfl⟩
 · refine ⟨_, _, _, _, Fn.ren [(1001, 1009)] ht, trivial, rfl, ?_⟩
   exact ⟨_, _, _, Le.refl _ _, rfl, rfl, ⟨rfl, rfl, rfl, rfl, rfl, rfl, trivial⟩, rfl⟩
/-! Export: Serve. -/
/-- What is answered, how much is left, and the code: so many requests at most. -/
def srv (ans : Rq → List UInt8) : Nat → List UInt8 → List UInt8 × Nat × Int
 | 0, b => ([], b.length, 0)
 | n + 1, b => if b.length < 16 then ([], b.length, 0) else if hearOK (b.take 16) = false then ([], b.length, 200)
   else if rqK (hearR (b.take 16)) = 4 then ([], b.length - 16, 0)
   else (ans (hearR (b.take 16)) ++ (srv ans n (b.drop 16)).1, (srv ans n (b.drop 16)).2)
@[reducible] def svL (bits room : Nat) (L : List Dsk) (o : Ob) (nm : List UInt8) (out : List UInt8) : BL := [(1001, .cells (chC bits room)), (1002, .map .str .adr (chE L)), (1003, .obj (.pool (chD L))), (1004, .obj (.pool (chM L))), (1005, .obj o), (11, .cells [.ptr 1001 0, .d (.str nm), .ptr 1005 0]), (6001, .row 5 .u8 out)]
@[reducible] def svL2 (bits room : Nat) (L : List Dsk) (o : Ob) (nm : List UInt8) (out : List UInt8) : BL := [(1001, .cells (chC bits room)), (1002, .map .str .adr (chE L)), (1003, .obj (.pool (chD L))), (1004, .obj (.pool (chM L))), (1005, .obj o), (11, .cells [.ptr 1001 0, .d (.str nm), .ptr 1005 0]), (43, .row 5 .u8 out)]
set_option maxHeartbeats 3000000 in
theorem serve_fn {bits room : Nat} {L : List Dsk} {o : Ob} {nm : List UInt8} {ans : Rq → List UInt8} {C : Rq → Prop}
   (hans : ∀ r, C r → Fn Tryz.prog 141 [svV nm, rqV r] (svB bits room L o) [] (vL .u8 (ans r)) (svB bits room L o)) (hal : ∀ r, C r → (ans r).length ≤ 30000) (b : List UInt8) (hb : b.length ≤ 100000)
   (hC : ∀ k, 16 * k + 16 ≤ b.length → hearOK ((b.drop (16 * k)).take 16) = true → rqK (hearR ((b.drop (16 * k)).take 16)) ≠ 4 → C (hearR ((b.drop (16 * k)).take 16))) :
   Fn Tryz.prog 37 [vP 1001, vS nm, vP 1005, vL .u8 b] (svB bits room L o) [1009] (.tup [.one (.own 1009), .one (.d (.int .i64 ((srv ans b.length b).2.1 : Nat))), .one (.d (.int .i64 (srv ans b.length b).2.2))]) (svR bits room L o (srv ans b.length b).1) := by
 generalize hR : srv ans b.length b = R
 refine Fn.of tblOK [] _ _ _ _ _ Tryz.func37 rfl rfl (by kernel_rfl) (by kernel_rfl) rfl (drawOK tblOK) rfl ?_
 refine ⟨rfl, ?_⟩
 show TrQ _ _ _ _ _ _ _
 refine TrQ.loop tblOK (drawOK tblOK) [] (by kernel_rfl) (X := List UInt8 × List UInt8 × Nat) (fun x => [(3, vL .u8 x.2.1), (11, vP 11), (12, vOwn 6001), (13, vI 0)]) (fun x => svL bits room L o nm x.1) (fun x => x.2.1.length < 16 * x.2.2 + 16 ∧ (x.2.1.length ≤ b.length ∧ x.1.length ≤ 30000 * (b.length - x.2.1.length)) ∧ (∃ k, x.2.1 = b.drop (16 * k)) ∧ (x.1 ++ (srv ans x.2.2 x.2.1).1, (srv ans x.2.2 x.2.1).2) = R) (fun x => x.2.2) ([], b, b.length) ⟨(by show b.length < 16 * b.length + 16; omega), ⟨Nat.le_refl _, Nat.zero_le _⟩, ⟨0, rfl⟩, hR⟩ ?_ ?_
 · exact Le.trans (Le.nil 12 6001 5 .u8 rfl rfl) (Le.sub ⟨rfl, rfl, rfl, rfl, trivial⟩ ⟨rfl, rfl, rfl, rfl, rfl, rfl, rfl, trivial⟩)
 rintro ⟨out, x, n⟩ ⟨hn, ⟨hlx, hlo⟩, hk, hr⟩
 have hn : x.length < 16 * n + 16 := hn
 have hlx : x.length ≤ b.length := hlx
 have hlo : out.length ≤ 30000 * (b.length - x.length) := hlo
 have hr : (out ++ (srv ans n x).1, (srv ans n x).2) = R := hr
 have hE : x.length < 16 → srv ans n x = ([], x.length, 0) := by
   intro hx
   cases n with
   | zero => rfl
   | succ n => unfold srv; rw [if_pos hx]
 have hS : 16 ≤ x.length → ∃ m, n = m + 1 ∧ srv ans n x = (if hearOK (x.take 16) = false then ([], x.length, 200) else if rqK (hearR (x.take 16)) = 4 then ([], x.length - 16, 0) else (ans (hearR (x.take 16)) ++ (srv ans m (x.drop 16)).1, (srv ans m (x.drop 16)).2)) := by
   intro hx
   obtain ⟨m, rfl⟩ : ∃ m, n = m + 1 := ⟨n - 1, by omega⟩
   exact ⟨m, rfl, by conv => lhs; unfold srv; rw [if_neg (by omega)]⟩
 have hCx : 16 ≤ x.length → hearOK (x.take 16) = true → rqK (hearR (x.take 16)) ≠ 4 → C (hearR (x.take 16)) := by
   obtain ⟨k, hk⟩ := hk
   have hk : x = b.drop (16 * k) := hk
   intro h1 h2 h3
   rw [hk] at h1 h2 h3 ⊢
   rw [List.length_drop] at h1
   exact hC k (by omega) h2 h3
 have hk2 : ∃ k, x.drop 16 = b.drop (16 * k) := by
   obtain ⟨k, hk⟩ := hk
   have hk : x = b.drop (16 * k) := hk
   exact ⟨k + 1, by rw [hk, List.drop_drop]; congr 1⟩
 have hdr : (List.take x.length x).drop 16 = x.drop 16 := by rw [List.take_length]
 have hdl : ((List.take x.length x).drop 16).length = x.length - 16 := by rw [List.take_length, List.length_drop]
 have hh := hear_fn (x.take 16) (by rw [List.length_take]; omega)
 clear hk
 refine ⟨fun h => ?_, fun h => ?_⟩
 · have hx : 16 ≤ x.length := by
     have h : decide ((16 : Int) ≤ ((x.length : Nat) : Int)) = true := h
     have := of_decide_eq_true h
     omega
   obtain ⟨m, rfl, hs⟩ := hS hx
   have hCx := hCx hx
   rw [hs] at hr
   clear hs hS hE
   have m1 : 0 ≤ (16 : Int) ∧ (16 : Int) ≤ ((x.length : Nat) : Int) := by omega
   have m2 : (0 : Int) ≤ 16 ∧ (16 : Int) ≤ ((x.length : Nat) : Int) := by omega
   cases hok : hearOK (x.take 16) with
   | false =>
     rw [hok] at hh
     rw [hok, if_pos rfl, List.append_nil] at hr
     subst hr
     refine ⟨m1, ?_⟩
     refine ⟨_, _, _, _, hh, trivial, rfl, ?_⟩
     refine ⟨rfl, ?_⟩
     refine ⟨fun _ => ?_, fun h => absurd h (by decide)⟩
     exact ⟨_, _, _, Le.ren 6001 1009 rfl, rfl, ⟨rfl, rfl, rfl, trivial⟩, ⟨rfl, rfl, rfl, rfl, rfl, rfl, trivial⟩, rfl⟩
   | true =>
     rw [hok] at hh
     rw [hok, if_neg (by decide)] at hr
     have hCx := hCx hok
     generalize hearR (x.take 16) = r at *
     by_cases h4 : rqK r = 4
     · rw [if_pos h4, List.append_nil] at hr
       subst hr
       refine ⟨m1, ?_⟩
       refine ⟨_, _, _, _, hh, trivial, rfl, ?_⟩
       refine ⟨rfl, ?_⟩
       refine ⟨fun h => absurd h (by decide), fun _ => ?_⟩
       refine ⟨fun _ => ?_, fun h => absurd (show decide (rqK r = 4) = false from h) (by rw [h4]; decide)⟩
       refine ⟨m2, ?_⟩
       exact ⟨_, _, _, Le.ren 6001 1009 rfl, rfl, ⟨rfl, congrArg Int.ofNat hdl, rfl, trivial⟩, ⟨rfl, rfl, rfl, rfl, rfl, rfl, trivial⟩, rfl⟩
     · rw [if_neg h4] at hr
       have hc := hCx h4
       have ha := hans r hc
       have hal := hal r hc
       generalize ans r = y at *
       have hl1 : out.length + y.length ≤ 4294967296 := by omega
       refine ⟨m1, ?_⟩
       refine ⟨_, _, _, _, hh, trivial, rfl, ?_⟩
       refine ⟨rfl, ?_⟩
       refine ⟨fun h => absurd h (by decide), fun _ => ?_⟩
       refine ⟨fun h => absurd (of_decide_eq_true (show decide (rqK r = 4) = true from h)) h4, fun _ => ?_⟩
       refine ⟨_, _, _, _, ha, ⟨rfl, rfl, rfl, rfl, rfl, trivial⟩, rfl, ?_⟩
       refine ⟨hl1, rfl, ?_⟩
       refine ⟨m2, ?_⟩
       have q1 : (out ++ y).length = out.length + y.length := List.length_append
       have q2 : (x.drop 16).length = x.length - 16 := List.length_drop
       refine ⟨(out ++ y, x.drop 16, m), ⟨(by show (x.drop 16).length < 16 * m + 16; omega), ⟨(by show (x.drop 16).length ≤ b.length; omega), (by show (out ++ y).length ≤ 30000 * (b.length - (x.drop 16).length); omega)⟩, hk2, (by rw [← hr]; show ((out ++ y) ++ _, _) = (out ++ (y ++ _), _); rw [List.append_assoc])⟩, Nat.lt_succ_self m, ?_⟩
       refine Le.trans (Le.sub (K' := [(3, vL .u8 (x.drop 16)), (11, vP 11), (12, vOwn 43), (13, vI 0)]) (B' := svL2 bits room L o nm (out ++ y)) ⟨hdr, rfl, rfl, rfl, trivial⟩ ⟨rfl, rfl, rfl, rfl, rfl, rfl, rfl, trivial⟩) ?_
       exact Le.trans (Le.ren 43 6001 rfl) (Le.sub ⟨rfl, rfl, rfl, rfl, trivial⟩ ⟨rfl, rfl, rfl, rfl, rfl, rfl, rfl, trivial⟩)
 · have hx : x.length < 16 := by
     have h : decide ((16 : Int) ≤ ((x.length : Nat) : Int)) = false := h
     have := of_decide_eq_false h
     omega
   rw [hE hx, List.append_nil] at hr
   subst hr
   exact ⟨_, _, _, Le.ren 6001 1009 rfl, rfl, ⟨rfl, rfl, rfl, trivial⟩, ⟨rfl, rfl, rfl, rfl, rfl, rfl, trivial⟩, rfl⟩
/-! Export: law 20's alive. -/
def dirN : Ob := Ob.grp 1001 [(1001, .cells [.mp 1002]), (1002, .map .str .adr [])]
theorem dnewN_fn : Fn Tryz.prog 73 [] [] [1001] (vP 1001) [(1001, .obj dirN)] := by
 refine Fn.of tblOK [] _ _ _ _ _ Tryz.func73 rfl rfl (by kernel_rfl) (by kernel_rfl) rfl (drawOK tblOK) rfl ?_
 refine ⟨rfl, ?_⟩
 refine ⟨rfl, ?_⟩
 exact ⟨_, _, _, Le.trans (Le.ren 3 1001 rfl) (Le.trans (Le.ren 1 1002 rfl) (Le.close 1001 [(1001, .cells [.mp 1002]), (1002, .map .str .adr [])] ⟨rfl, rfl, trivial⟩ rfl fun _ _ _ _ h => h)), rfl, rfl, ⟨rfl, trivial⟩, rfl⟩
@[reducible] def a20r : Rq := (1, 0, 7, 0, 2)
def a20b : List UInt8 := askB a20r ++ [1, 2, 3]
def a20L (p : Nat × Nat) : List Dsk := (adC 0 20 [] [97] 2 [] p).L
def a20z : List UInt8 := List.replicate 32 0
@[reducible] def exN : List S1 := [.d (.int .i64 0), .d (.int .i64 2), .d (.int .i64 1)]
def a20x : List UInt8 := [0, 0, 0, 2, 1]
theorem a20_rd (p : Nat × Nat) : rdA 0 (a20L p) [97] a20r = (a20z, 0) := by kernel_rfl
theorem a20_srv (ans : Rq → List UInt8) : srv ans a20b.length a20b = (ans a20r ++ [], 3, 0) := by kernel_rfl
theorem a20_rpl : rplL ((tellB 0 7 a20z).length + 1) (tellB 0 7 a20z, 0) = some [(0, 7, a20z)] := by kernel_rfl
theorem a20_ext : xtL (a20x.length + 1) 0 (a20x, 0) = some [(0, 2, 1)] := by kernel_rfl
theorem a20_serve {p : Nat × Nat} (h : CS 0 20 (a20L p)) (o : Ob) : Fn Tryz.prog 37 [vP 1001, vS [97], vP 1005, vL .u8 a20b] (svB 0 20 (a20L p) o) [1009] (.tup [.one (.own 1009), .one (.d (.int .i64 3)), .one (.d (.int .i64 0))]) (svR 0 20 (a20L p) o (tellB 0 7 a20z)) := by
 have hx := srd_fn h o [97] a20r
 rw [a20_rd] at hx
 have ha := answer_fn (k := 1) (.inl ⟨rfl, rfl⟩) hx (fun h => absurd rfl h) (by decide) (by kernel_rfl)
 have hs := serve_fn (C := fun r => r = a20r) (ans := fun _ => tellB 0 7 a20z) (fun r hr => by subst hr; exact Fn.frz ha rfl rfl) (fun _ _ => by decide) a20b (by decide) (fun k hk h1 h2 => by
   have hk0 : k = 0 := by
     have e : a20b.length = 19 := by decide
     omega
   subst hk0
   show hearR ((a20b.drop 0).take 16) = a20r
   kernel_rfl)
 rw [a20_srv, List.append_nil] at hs
 exact hs
set_option maxHeartbeats 3000000 in
theorem alive20_fn : Fn Tryz.prog 75 [] [] [] (vB true) [] := by
 have c0 : CS 0 20 [] := CS.nil (by decide) (by decide)
 have hask := ask_ok a20r rfl rfl
 have hrp := replies_ok (tellB 0 7 a20z) [(0, 7, a20z)] (by decide) a20_rpl
 have hxt := exts_ok a20x [(0, 2, 1)] (by decide) a20_ext
 refine Fn.of tblOK [5,6,8] _ _ _ _ _ Tryz.func75 rfl rfl (by kernel_rfl) (by kernel_rfl) rfl (drawOK tblOK) rfl ?_
 refine ⟨_, _, _, _, chnew_ok 0 20 (by decide) (by decide), trivial, rfl, ?_⟩
 refine ⟨_, _, _, _, Fn.ren [(1001, 1005)] dnewN_fn, trivial, rfl, ?_⟩
 refine ⟨fun h => absurd h (by decide), fun _ => ?_⟩
 show TrQ _ _ _ _ _ _ _
 refine TrQ.regionX tblOK (by kernel_rfl) ?_
 refine ⟨_, _, _, fun g => _, fun g => _, chadd_fn c0 [97] 2 [] (by decide), ⟨rfl, rfl, rfl, rfl, trivial⟩, rfl, fun _ => rfl, fun p => ?_⟩
 have c1 : CS 0 20 (a20L p.1) := p.2
 have hsv := a20_serve c1 dirN
 show TrQ _ _ _ _ _ _ _
 refine TrQ.go tblOK (drawOK tblOK) [8] (by kernel_rfl) (Le.sub (K' := [(1, vP 1001), (3, vP 1005)]) (B' := svB 0 20 (a20L p.1) dirN) ⟨rfl, rfl, trivial⟩ ⟨rfl, rfl, rfl, rfl, rfl, trivial⟩) ?_
 refine ⟨_, _, _, _, Fn.ren [(1001, 1006)] hask, trivial, rfl, ?_⟩
 refine ⟨by decide, by decide, rfl, ?_⟩
 refine ⟨_, _, _, _, Fn.own (d := 40) (args := [vP 1001, vS [97], vP 1005, vOwn 40]) hsv rfl, ⟨rfl, rfl, rfl, rfl, rfl, rfl, trivial⟩, rfl, ?_⟩
 show TrQ _ _ _ _ _ _ _
 refine TrQ.go tblOK (drawOK tblOK) [] (by kernel_rfl) (Le.sub (K' := [(5, vI 0), (6, vOwn 1009), (7, vI 3), (8, vI 0)]) (B' := [(1009, .row 5 .u8 (tellB 0 7 a20z))]) ⟨rfl, rfl, rfl, rfl, trivial⟩ ⟨rfl, trivial⟩) ?_
 refine ⟨_, _, _, _, Fn.own (d := 1009) (args := [vOwn 1009]) hrp rfl, ⟨rfl, trivial⟩, rfl, ?_⟩
 refine ⟨by decide, ?_⟩
 refine ⟨_, _, _, _, Fn.ren [(1001, 1002)] hxt, trivial, rfl, ?_⟩
 refine ⟨fun _ => ?_, fun h => absurd h (by decide)⟩
 refine ⟨fun _ => ?_, fun h => absurd h (by decide)⟩
 refine ⟨fun _ => ?_, fun h => absurd h (by decide)⟩
 refine ⟨fun _ => ?_, fun h => absurd h (by decide)⟩
 refine ⟨fun _ => ?_, fun h => absurd h (by decide)⟩
 refine ⟨⟨by decide, by decide⟩, _, rfl, ?_⟩
 refine ⟨fun _ => ?_, fun h => absurd h (by decide)⟩
 refine ⟨⟨by decide, by decide⟩, _, rfl, ?_⟩
 refine ⟨fun _ => ?_, fun h => absurd h (by decide)⟩
 refine ⟨fun _ => ?_, fun h => absurd h (by decide)⟩
 refine ⟨fun _ => ?_, fun h => absurd h (by decide)⟩
 refine ⟨⟨by decide, by decide⟩, _, rfl, ?_⟩
 refine ⟨_, _, fun N => opOK_eqDeep (m := 5) (D := 5) (r := true) (lx := exN) (ly := exN) rfl (by kernel_rfl) (by kernel_rfl) (by decide) rfl rfl rfl rfl rfl (by kernel_rfl) (by kernel_rfl) ⟨fun _ => rfl, fun _ => rfl⟩ N, rfl, ?_⟩
 exact ⟨_, _, _, Le.refl _ _, rfl, rfl, trivial, rfl⟩
end Go.Proofs.YtojaemgabaehdaaGreat
/-!
  Bitmaps: bits.New, Set, Is, Sectors.
-/
namespace Go.Proofs.YtojaemgabaehdaaGreat
set_option linter.unusedVariables false
set_option linter.unusedSimpArgs false
set_option maxRecDepth 10000
open Go.RowKit Go.Proofs
section
variable {P : Program} {ids : List Nat} {K : KL} {B : BL}
/-- Sums and quotients that may wrap. -/
theorem opOK_arW {o : Oper} {op : BinOp} {T T2 : TypeId} {x y : Operand} {n m r : Int} (ho : o.op = .binOp op T x y T2) (hx : opv K x = .c (.one (.d (.int .i64 n)))) (hy : opv K y = .c (.one (.d (.int .i64 m))))
   (h : (op = .add ∧ r = IntKind.i64.wrap (n + m)) ∨ (op = .sub ∧ r = IntKind.i64.wrap (n - m)) ∨ (op = .quo ∧ m ≠ 0 ∧ r = IntKind.i64.wrap (n.tdiv m))) (N : Nat) : OpOK P N ids o K B (.c (.one (.d (.int .i64 r)))) ⟨[], [], []⟩ := by
 have m1 : x ∈ o.op.operands := by rw [ho]; simp [Op.operands]
 have m2 : y ∈ o.op.operands := by rw [ho]; simp [Op.operands]
 refine OpOK.val fun K' B' g1 g2 C ρ F ac w hM hS => ?_
 have e1 := hS.int ((g1 x m1).trans hx)
 have e2 := hS.int ((g1 y m2).trans hy)
 refine ⟨.int .i64 r, ?_, rfl⟩
 simp only [execOp, ho, e1, e2]
 rcases h with ⟨rfl, rfl⟩ | ⟨rfl, rfl⟩ | ⟨rfl, hm, rfl⟩
 · simp [eqGuard, go_sem, Op.intArith]
 · simp [eqGuard, go_sem, Op.intArith]
 · simp [eqGuard, go_sem, Op.intDiv, hm]
end
@[reducible] def bzC (s g : Int) : List S1 := [.d (.int .i64 s), .d (.int .i64 g), .mp 1002]
@[reducible] def bzB (s g : Int) (es : List (El uI × El uI)) : BL := [(1001, .cells (bzC s g)), (1002, .map uI uI es)]
theorem bzright_fn (s : Int) : Fn Tryz.prog 161 [vI s] [] [] (vB (decide (0 ≤ s) && decide (s ≤ 4096))) [] := by
 refine Fn.of tblOK [] _ _ _ _ _ Tryz.func161 rfl rfl (by kernel_rfl) (by kernel_rfl) rfl (drawOK tblOK) rfl ?_
 refine ⟨fun h1 => ?_, fun h1 => ?_⟩
 · have h1 : decide (0 ≤ s) = true := h1
   exact ⟨_, _, _, Le.refl _ _, rfl, (show decide (s ≤ 4096) = (decide (0 ≤ s) && decide (s ≤ 4096)) by rw [h1]; rfl), trivial, rfl⟩
 · have h1 : decide (0 ≤ s) = false := h1
   exact ⟨_, _, _, Le.refl _ _, rfl, (show false = (decide (0 ≤ s) && decide (s ≤ 4096)) by rw [h1]; rfl), trivial, rfl⟩
def bzOK (s g : Int) : Bool := ((decide (0 ≤ s) && decide (s ≤ 4096)) && (!decide (g < 1) && !decide (64 < g))) && decide (((g.toNat &&& (g - 1).toNat : Nat) : Int) = 0)
theorem bzOK_get {s g : Int} (h : bzOK s g = true) : (0 ≤ s ∧ s ≤ 4096) ∧ 1 ≤ g ∧ g ≤ 64 := by
 unfold bzOK at h
 simp only [Bool.and_eq_true, Bool.not_eq_true', decide_eq_true_eq, decide_eq_false_iff_not] at h
 obtain ⟨⟨⟨h1, h2⟩, h3, h4⟩, _⟩ := h
 omega
theorem bznew_ok (s g : Int) (h : bzOK s g = true) : Fn Tryz.prog 78 [vI s, vI g] [] [2001, 2002] (.tup [.one (.ptr 2001 0), vErr 0]) [(2001, .cells [.d (.int .i64 s), .d (.int .i64 g), .mp 2002]), (2002, .map uI uI [])] := by
 obtain ⟨g1, g2, g3⟩ := bzOK_get h
 have hr := bzright_fn s
 rw [decide_eq_true g1.1, decide_eq_true g1.2] at hr
 unfold bzOK at h
 simp only [Bool.and_eq_true] at h
 have h5 := h.2
 have m1 : (-9223372036854775808 : Int) ≤ g - 1 ∧ g - 1 ≤ 9223372036854775807 := by omega
 refine Fn.of tblOK [] _ _ _ _ _ Tryz.func78 rfl rfl (by kernel_rfl) (by kernel_rfl) rfl (drawOK tblOK) rfl ?_
 refine ⟨_, _, _, _, hr, trivial, rfl, ?_⟩
 refine ⟨fun h => absurd h (by decide), fun _ => ?_⟩
 refine ⟨fun h => absurd (of_decide_eq_true h) (by omega), fun _ => ?_⟩
 refine ⟨fun h => absurd (of_decide_eq_true h) (by omega), fun _ => ?_⟩
 refine ⟨m1, ?_⟩
 refine ⟨_, _, fun N => opOK_and rfl rfl rfl (by omega) (by omega) (by omega) (by omega) N, rfl, ?_⟩
 refine ⟨fun h => ?_, fun _ => ?_⟩
 · exfalso
   have h : (!decide (((g.toNat &&& (g - 1).toNat : Nat) : Int) = 0)) = true := h
   rw [h5] at h
   cases h
 refine ⟨rfl, rfl, ?_⟩
 exact ⟨_, _, _, Le.trans (Le.ren 28 2001 rfl) (Le.ren 26 2002 rfl), rfl, ⟨rfl, rfl, trivial⟩, ⟨rfl, rfl, trivial⟩, rfl⟩
theorem bznew_no (s g : Int) (h : bzOK s g = false) : Fn Tryz.prog 78 [vI s, vI g] [] [] (.tup [vNilP, vErr 1]) [] := by
 have hr := bzright_fn s
 unfold bzOK at h
 generalize (decide (0 ≤ s) && decide (s ≤ 4096)) = b at *
 refine Fn.of tblOK [] _ _ _ _ _ Tryz.func78 rfl rfl (by kernel_rfl) (by kernel_rfl) rfl (drawOK tblOK) rfl ?_
 refine ⟨_, _, _, _, hr, trivial, rfl, ?_⟩
 refine ⟨fun _ => ?_, fun h1 => ?_⟩
 · exact ⟨_, _, _, Le.refl _ _, rfl, ⟨rfl, rfl, trivial⟩, trivial, rfl⟩
 have h1 : b = true := by
   have h1 : (!b) = false := h1
   simpa using h1
 refine ⟨fun _ => ?_, fun h2 => ?_⟩
 · exact ⟨_, _, _, Le.refl _ _, rfl, ⟨rfl, rfl, trivial⟩, trivial, rfl⟩
 refine ⟨fun _ => ?_, fun h3 => ?_⟩
 · exact ⟨_, _, _, Le.refl _ _, rfl, ⟨rfl, rfl, trivial⟩, trivial, rfl⟩
 have h2 : decide (g < 1) = false := h2
 have h3 : decide (64 < g) = false := h3
 rw [h1, h2, h3] at h
 have q2 := of_decide_eq_false h2
 have q3 := of_decide_eq_false h3
 have m1 : (-9223372036854775808 : Int) ≤ g - 1 ∧ g - 1 ≤ 9223372036854775807 := by omega
 refine ⟨m1, ?_⟩
 refine ⟨_, _, fun N => opOK_and rfl rfl rfl (by omega) (by omega) (by omega) (by omega) N, rfl, ?_⟩
 refine ⟨fun _ => ?_, fun h4 => ?_⟩
 · exact ⟨_, _, _, Le.refl _ _, rfl, ⟨rfl, rfl, trivial⟩, trivial, rfl⟩
 · exfalso
   have h4 : (!decide (((g.toNat &&& (g - 1).toNat : Nat) : Int) = 0)) = false := h4
   have h : ((true && (!false && !false)) && decide (((g.toNat &&& (g - 1).toNat : Nat) : Int) = 0)) = false := h
   generalize decide (((g.toNat &&& (g - 1).toNat : Nat) : Int) = 0) = c at *
   cases c
   · cases h4
   · cases h
def pos0 (z : Int) : Bool := decide (0 < z)
def bzIs (g : Int) (es : List (El uI × El uI)) (k : Nat) : Bool := pos0 ((mget (ku := uI) (vu := uI) es ((k : Int) / g)).getD (dflt uI))
theorem bzis_fn (s g : Int) (es : List (El uI × El uI)) (k : Nat) (hg : 1 ≤ g) (hk : (k : Int) < s) (hs : s ≤ 4096) : Fn Tryz.prog 253 [vP 1001, vI (k : Int)] (bzB s g es) [] (vB (bzIs g es k)) (bzB s g es) := by
 have hq : (0 : Int) ≤ (k : Int) / g := Int.ediv_nonneg (by omega) (by omega)
 have hq2 : (k : Int) / g ≤ (k : Int) := Int.ediv_le_self _ (by omega)
 have m1 : (-9223372036854775808 : Int) ≤ (k : Int) / g ∧ (k : Int) / g ≤ 9223372036854775807 := by omega
 refine Fn.of tblOK [] _ _ _ _ _ Tryz.func253 rfl rfl (by kernel_rfl) (by kernel_rfl) rfl (drawOK tblOK) rfl ?_
 refine ⟨fun _ => ?_, fun h => absurd (of_decide_eq_false h) (by omega)⟩
 refine ⟨fun _ => ?_, fun h => absurd (of_decide_eq_false h) (by omega)⟩
 refine ⟨⟨by omega, by omega⟩, m1, ?_⟩
 refine ⟨rfl, ?_⟩
 exact ⟨_, _, _, Le.refl _ _, rfl, rfl, ⟨rfl, rfl, trivial⟩, rfl⟩
/-! ### Set -/
def bzPut (es : List (El uI × El uI)) (f : Int) : Nat → List (El uI × El uI)
 | 0 => es
 | n + 1 => mput (ku := uI) (vu := uI) (bzPut es f n) (f + (n : Int)) (1 : Int)
@[reducible] def bzX (s g : Int) (es : List (El uI × El uI)) : BL := bzB s g es ++ [(3001, .cells [.ptr 1001 0])]
theorem bzset1_fn (s g : Int) (es : List (El uI × El uI)) (k : Int) : Fn Tryz.prog 240 [vI k, vP 3001] (bzX s g es) [] vU (bzX s g (mput (ku := uI) (vu := uI) es k (1 : Int))) := by
 refine Fn.of tblOK [] _ _ _ _ _ Tryz.func240 rfl rfl (by kernel_rfl) (by kernel_rfl) rfl (drawOK tblOK) rfl ?_
 refine ⟨trivial, ?_⟩
 exact ⟨_, _, _, Le.refl _ _, rfl, trivial, ⟨rfl, rfl, rfl, trivial⟩, rfl⟩
@[reducible] def beK (en k : Int) : KL := [(4, vI en), (5, .c (.one (.clo 240 [.p 3001 0]))), (13, vI k)]
theorem bzeach_ok (s g : Int) (es : List (El uI × El uI)) (fr lg fi en : Int) (h1 : 0 ≤ lg) (h2 : 0 ≤ fr) (h3 : lg ≤ s) (h4 : fr ≤ s - lg) (hs : s ≤ 4096) (h5 : 0 ≤ fi) (h6 : en ≤ 1000000) : Fn Tryz.prog 239 [vP 1001, vI fr, vI lg, vI fi, vI en, .c (.one (.clo 240 [.p 3001 0]))] (bzX s g es) [] (vI 0) (bzX s g (bzPut es fi (en - fi).toNat)) := by
 have m1 : (-9223372036854775808 : Int) ≤ s - lg ∧ s - lg ≤ 9223372036854775807 := by omega
 refine Fn.of tblOK [] _ _ _ _ _ Tryz.func239 rfl rfl (by kernel_rfl) (by kernel_rfl) rfl (drawOK tblOK) rfl ?_
 refine ⟨fun h => absurd (of_decide_eq_true h) (by omega), fun _ => ?_⟩
 refine ⟨fun h => absurd (of_decide_eq_true h) (by omega), fun _ => ?_⟩
 refine ⟨fun h => absurd (of_decide_eq_true h) (by omega), fun _ => ?_⟩
 refine ⟨m1, ?_⟩
 refine ⟨fun h => absurd (of_decide_eq_true h) (by omega), fun _ => ?_⟩
 show TrQ _ _ _ _ _ _ _
 refine TrQ.loop tblOK (drawOK tblOK) [6] (by kernel_rfl) (X := Nat) (fun j => beK en (fi + (j : Int))) (fun j => bzX s g (bzPut es fi j)) (fun j => j ≤ (en - fi).toNat) (fun j => (en - fi).toNat - j) 0 (Nat.zero_le _) ?_ ?_
 · exact Le.sub ⟨rfl, rfl, (show fi = fi + ((0 : Nat) : Int) by omega), trivial⟩ ⟨rfl, rfl, rfl, trivial⟩
 intro j hj
 have hj : j ≤ (en - fi).toNat := hj
 refine ⟨fun hc => ?_, fun hc => ?_⟩
 · have hc : decide (fi + (j : Int) < en) = true := hc
   have hc := of_decide_eq_true hc
   show TrQ _ _ _ _ _ _ _
   refine TrQ.go tblOK (drawOK tblOK) [] (by kernel_rfl) (Le.refl _ _) ?_
   refine ⟨_, _, _, _, bzset1_fn s g (bzPut es fi j) (fi + (j : Int)), ⟨rfl, rfl, rfl, trivial⟩, rfl, ?_⟩
   exact ⟨by omega, j + 1, by omega, by omega, Le.sub ⟨rfl, rfl, (show fi + (j : Int) + 1 = fi + ((j + 1 : Nat) : Int) by omega), trivial⟩ ⟨rfl, rfl, rfl, trivial⟩⟩
 · have hc : decide (fi + (j : Int) < en) = false := hc
   have hc := of_decide_eq_false hc
   have hj2 : j = (en - fi).toNat := by omega
   subst hj2
   exact ⟨_, _, _, Le.refl _ _, rfl, rfl, ⟨rfl, rfl, rfl, trivial⟩, rfl⟩
theorem bzeach_no (s g : Int) (es : List (El uI × El uI)) (fr lg fi en : Int) (h : ¬ (0 ≤ lg ∧ 0 ≤ fr ∧ lg ≤ s ∧ fr ≤ s - lg)) (hs : 0 ≤ s ∧ s ≤ 4096) : Fn Tryz.prog 239 [vP 1001, vI fr, vI lg, vI fi, vI en, .c (.one (.clo 240 [.p 3001 0]))] (bzX s g es) [] (vI 1) (bzX s g es) := by
 refine Fn.of tblOK [] _ _ _ _ _ Tryz.func239 rfl rfl (by kernel_rfl) (by kernel_rfl) rfl (drawOK tblOK) rfl ?_
 refine ⟨fun _ => ?_, fun q1 => ?_⟩
 · exact ⟨_, _, _, Le.refl _ _, rfl, rfl, ⟨rfl, rfl, rfl, trivial⟩, rfl⟩
 refine ⟨fun _ => ?_, fun q2 => ?_⟩
 · exact ⟨_, _, _, Le.refl _ _, rfl, rfl, ⟨rfl, rfl, rfl, trivial⟩, rfl⟩
 refine ⟨fun _ => ?_, fun q3 => ?_⟩
 · exact ⟨_, _, _, Le.refl _ _, rfl, rfl, ⟨rfl, rfl, rfl, trivial⟩, rfl⟩
 have q1 : ¬ lg < 0 := of_decide_eq_false q1
 have q2 : ¬ fr < 0 := of_decide_eq_false q2
 have q3 : ¬ s < lg := of_decide_eq_false q3
 have m1 : (-9223372036854775808 : Int) ≤ s - lg ∧ s - lg ≤ 9223372036854775807 := by omega
 refine ⟨m1, ?_⟩
 refine ⟨fun _ => ?_, fun q4 => ?_⟩
 · exact ⟨_, _, _, Le.refl _ _, rfl, rfl, ⟨rfl, rfl, rfl, trivial⟩, rfl⟩
 · exfalso
   have q4 : ¬ s - lg < fr := of_decide_eq_false q4
   exact h (by omega)
def bzV (s fr lg : Int) : Prop := 0 ≤ lg ∧ 0 ≤ fr ∧ lg ≤ s ∧ fr ≤ s - lg
instance (s fr lg : Int) : Decidable (bzV s fr lg) := by unfold bzV; infer_instance
def bzSet (s g : Int) (es : List (El uI × El uI)) (fr lg : Int) : List (El uI × El uI) := if bzV s fr lg then bzPut es (fr / g) ((if lg = 0 then 0 else (fr + lg + g - 1) / g) - fr / g).toNat else es
@[reducible] def bzK (fr lg en : Int) : KL := [(1, vI fr), (2, vI lg), (3, vP 3), (7, vI en)]
@[reducible] def bz3 (s g : Int) (es : List (El uI × El uI)) : BL := bzB s g es ++ [(3, .cells [.ptr 1001 0])]
theorem bzset_fn (s g : Int) (es : List (El uI × El uI)) (fr lg : Int) (hs : 0 ≤ s ∧ s ≤ 4096) (hg : 1 ≤ g ∧ g ≤ 64) : Fn Tryz.prog 165 [vP 1001, vI fr, vI lg] (bzB s g es) [] (vI (if bzV s fr lg then 0 else 1)) (bzB s g (bzSet s g es fr lg)) := by
 by_cases hv : bzV s fr lg
 · have e0 : bzSet s g es fr lg = bzPut es (fr / g) ((if lg = 0 then 0 else (fr + lg + g - 1) / g) - fr / g).toNat := if_pos hv
   rw [e0, if_pos hv]
   obtain ⟨v1, v2, v3, v4⟩ := hv
   have p1 : (0 : Int) ≤ fr / g := Int.ediv_nonneg (by omega) (by omega)
   have p2 : fr / g ≤ fr := Int.ediv_le_self _ (by omega)
   have p3 : (0 : Int) ≤ (fr + lg + g - 1) / g := Int.ediv_nonneg (by omega) (by omega)
   have p4 : (fr + lg + g - 1) / g ≤ fr + lg + g - 1 := Int.ediv_le_self _ (by omega)
   have n1 : (-9223372036854775808 : Int) ≤ fr + lg ∧ fr + lg ≤ 9223372036854775807 := by omega
   have n2 : (-9223372036854775808 : Int) ≤ fr + lg + g ∧ fr + lg + g ≤ 9223372036854775807 := by omega
   have n3 : (-9223372036854775808 : Int) ≤ fr + lg + g - 1 ∧ fr + lg + g - 1 ≤ 9223372036854775807 := by omega
   have n4 : (-9223372036854775808 : Int) ≤ (fr + lg + g - 1) / g ∧ (fr + lg + g - 1) / g ≤ 9223372036854775807 := by omega
   have n5 : (-9223372036854775808 : Int) ≤ fr / g ∧ fr / g ≤ 9223372036854775807 := by omega
   have n6 : (0 : Int) ≤ fr + lg + g - 1 ∧ 0 < g := by omega
   have n7 : (0 : Int) ≤ fr ∧ 0 < g := by omega
   have he := fun en (h : en ≤ 1000000) => bzeach_ok s g es fr lg (fr / g) en v1 v2 v3 v4 hs.2 p1 h
   have he1 := he _ (show (fr + lg + g - 1) / g ≤ 1000000 by omega)
   have he2 := he 0 (by decide)
   generalize hq1 : (fr + lg + g - 1) / g = en at *
   generalize hq2 : fr / g = fi at *
   refine Fn.of tblOK [4] _ _ _ _ _ Tryz.func165 rfl rfl (by kernel_rfl) (by kernel_rfl) rfl (drawOK tblOK) rfl ?_
   refine ⟨rfl, ?_⟩
   refine ⟨n1, n2, n3, n6, by rw [hq1]; exact n4, ?_⟩
   refine ⟨rfl, ?_⟩
   refine ⟨fun hl => ?_, fun hl => ?_⟩
   · have hl : lg = 0 := of_decide_eq_true hl
     rw [if_pos hl]
     show TrQ _ _ _ _ _ _ _
     refine TrQ.go tblOK (drawOK tblOK) [] (by kernel_rfl) (Le.sub (K' := bzK fr lg 0) (B' := bz3 s g es) ⟨rfl, rfl, rfl, rfl, trivial⟩ ⟨rfl, rfl, rfl, trivial⟩) ?_
     refine ⟨n7, by rw [hq2]; exact n5, ?_⟩
     refine ⟨_, _, _, _, Fn.arg (args := [vP 1001, vI fr, vI lg, vI (fr / g), vI 0, .c (.one (.clo 240 [.p 3001 0]))]) he2 ⟨rfl, rfl, rfl, hq2, rfl, rfl, trivial⟩ |> Fn.ren [(3001, 3)], ⟨rfl, rfl, rfl, trivial⟩, rfl, ?_⟩
     refine ⟨rfl, ?_⟩
     exact ⟨_, _, _, Le.refl _ _, rfl, rfl, ⟨rfl, rfl, trivial⟩, rfl⟩
   · have hl : ¬ lg = 0 := of_decide_eq_false hl
     rw [if_neg hl]
     show TrQ _ _ _ _ _ _ _
     refine TrQ.go tblOK (drawOK tblOK) [] (by kernel_rfl) (Le.sub (K' := bzK fr lg en) (B' := bz3 s g es) ⟨rfl, rfl, rfl, hq1, trivial⟩ ⟨rfl, rfl, rfl, trivial⟩) ?_
     refine ⟨n7, by rw [hq2]; exact n5, ?_⟩
     refine ⟨_, _, _, _, Fn.arg (args := [vP 1001, vI fr, vI lg, vI (fr / g), vI en, .c (.one (.clo 240 [.p 3001 0]))]) he1 ⟨rfl, rfl, rfl, hq2, rfl, rfl, trivial⟩ |> Fn.ren [(3001, 3)], ⟨rfl, rfl, rfl, trivial⟩, rfl, ?_⟩
     refine ⟨rfl, ?_⟩
     exact ⟨_, _, _, Le.refl _ _, rfl, rfl, ⟨rfl, rfl, trivial⟩, rfl⟩
 · have e0 : bzSet s g es fr lg = es := if_neg hv
   rw [e0, if_neg hv]
   have he := fun fi en => bzeach_no s g es fr lg fi en hv hs
   refine Fn.of tblOK [1,4] _ _ _ _ _ Tryz.func165 rfl rfl (by kernel_rfl) (by kernel_rfl) rfl (drawOK tblOK) rfl ?_
   refine ⟨rfl, ?_⟩
   show TrQ _ _ _ _ _ _ _
   refine TrQ.ro (2000000 + 10) (by decide) ?_
   refine TrQ.ro (2000000 + 15) (by decide) ?_
   refine TrQ.ro (2000000 + 16) (by decide) ?_
   refine TrQ.ro (2000000 + 21) (by decide) ?_
   refine TrQ.go tblOK (drawOK tblOK) [4] (by kernel_rfl) (Le.refl _ _) ?_
   refine ⟨_, _, fun N => opOK_arW rfl rfl rfl (.inl ⟨rfl, rfl⟩) N, rfl, ?_⟩
   refine ⟨_, _, fun N => opOK_arW rfl rfl rfl (.inl ⟨rfl, rfl⟩) N, rfl, ?_⟩
   refine ⟨_, _, fun N => opOK_arW rfl rfl rfl (.inr (.inl ⟨rfl, rfl⟩)) N, rfl, ?_⟩
   refine ⟨_, _, fun N => opOK_arW rfl rfl rfl (.inr (.inr ⟨rfl, by omega, rfl⟩)) N, rfl, ?_⟩
   refine ⟨rfl, ?_⟩
   generalize IntKind.i64.wrap _ = en
   refine ⟨fun _ => ?_, fun _ => ?_⟩
   · show TrQ _ _ _ _ _ _ _
     refine TrQ.le (Le.sub (K' := bzK fr lg 0) (B' := bz3 s g es) ⟨rfl, rfl, rfl, rfl, trivial⟩ ⟨rfl, rfl, rfl, trivial⟩) ?_
     refine TrQ.ro (2000000 + 32) (by decide) ?_
     refine TrQ.go tblOK (drawOK tblOK) [] (by kernel_rfl) (Le.refl _ _) ?_
     refine ⟨_, _, fun N => opOK_arW rfl rfl rfl (.inr (.inr ⟨rfl, by omega, rfl⟩)) N, rfl, ?_⟩
     refine ⟨_, _, _, _, Fn.ren [(3001, 3)] (he _ _), ⟨rfl, rfl, rfl, trivial⟩, rfl, ?_⟩
     refine ⟨rfl, ?_⟩
     exact ⟨_, _, _, Le.refl _ _, rfl, rfl, ⟨rfl, rfl, trivial⟩, rfl⟩
   · show TrQ _ _ _ _ _ _ _
     refine TrQ.le (Le.sub (K' := bzK fr lg en) (B' := bz3 s g es) ⟨rfl, rfl, rfl, rfl, trivial⟩ ⟨rfl, rfl, rfl, trivial⟩) ?_
     refine TrQ.ro (2000000 + 32) (by decide) ?_
     refine TrQ.go tblOK (drawOK tblOK) [] (by kernel_rfl) (Le.refl _ _) ?_
     refine ⟨_, _, fun N => opOK_arW rfl rfl rfl (.inr (.inr ⟨rfl, by omega, rfl⟩)) N, rfl, ?_⟩
     refine ⟨_, _, _, _, Fn.ren [(3001, 3)] (he _ _), ⟨rfl, rfl, rfl, trivial⟩, rfl, ?_⟩
     refine ⟨rfl, ?_⟩
     exact ⟨_, _, _, Le.refl _ _, rfl, rfl, ⟨rfl, rfl, trivial⟩, rfl⟩
end Go.Proofs.YtojaemgabaehdaaGreat
/-!
  Rows of extents: a field of one in a row of one's own is written; span: add, end, Of; chains: Row.
-/
namespace Go.Proofs.YtojaemgabaehdaaGreat
set_option linter.unusedVariables false
set_option linter.unusedSimpArgs false
set_option maxRecDepth 10000
open Go.RowKit Go.Proofs
section
variable {P : Program} {ids : List Nat} {K : KL} {B : BL}
/-- One cell of one of a row's things is written. -/
theorem opOK_rowSet {o : Oper} {T : TypeId} {x v : Operand} {c i off : Nat} {e : TypeId} {u : U} {xs : List (El u)} {y y' : El u} {dv : D} {inf : TypeInfo} (ho : o.op = .store T x v) (hi : P.info? T = some inf) (hz : inf.size = 1) (hx : opv K x = .c (.one (.rp c (sz u) i off)))
   (hv : opv K v = .c (.one (.d dv))) (hB : lookB B c = some (.row e u xs)) (hy : lget xs i = some y) (hoff : off < sz u) (hwf : WfU u y') (hc : ∀ j, j < sz u → cellU u y' j = if j = off then dv else cellU u y j)
   (h1 : ∀ {I : Nat → Prop} {w : World} {z : Value}, Den I w dv z → z.cells = List.toArray [z] ∧ z.oneCell' = true) (N : Nat) :
   OpOK P N ids o K B .undef ⟨[c], [], [(c, some (.row e u (xs.set i y')))]⟩ := by
 have m1 : x ∈ o.op.operands := by rw [ho]; simp [Op.operands]
 have m2 : v ∈ o.op.operands := by rw [ho]; simp [Op.operands]
 have hil : i < xs.length := lget_lt hy
 refine OpOK.turn hB fun K' B' g1 C ρ F a w hM hS hl' => ?_
 obtain ⟨hF, hblk, cs, hown, hrec⟩ := hM.holds c _ hl'
 have hxp := hS.rp ((g1 x m1).trans hx)
 have e2 : Den (Imm C B' F w) w dv (a.eval v) := hS.ev ((g1 v m2).trans hv)
 obtain ⟨d1, d2⟩ := h1 e2
 obtain ⟨hl1, hown⟩ := hown
 rcases hown with ⟨_, h0⟩ | ⟨g, cap, cur, hv', _, hg, hcap, hm, hsz, ht⟩
 · omega
 · have hbg : g = (ρ c).blk := hblk g (by rw [hv']; rfl)
   subst hbg
   have hmul : i * sz u + off < xs.length * sz u := by
     have := Nat.mul_le_mul_right (sz u) hil
     rw [Nat.succ_mul] at this
     omega
   have hmul2 : xs.length * sz u ≤ cap * sz u := Nat.mul_le_mul_right _ hcap
   have hgt : w.heap[(ρ c).blk]? = some (.cells (List.toArray cur.toList) e (0, 0)) := by simpa using hg
   have hfit : i * sz u + off + [a.eval v].length ≤ cur.toList.length := by simp; omega
   have hex := exec_store (P := P) (ev := a.eval) (w := w) ho hxp d1 hi hz hgt hfit (by simpa using d2)
   refine ⟨_, hex, setRow_fr ((hF _).2 (by rw [hv']; rfl)), fun I he => ?_⟩
   have hnew := setRow_heap w (ρ c).blk cur (List.take (i * sz u + off) cur.toList ++ [a.eval v] ++ List.drop (i * sz u + off + [a.eval v].length) cur.toList).toArray e (0, 0) hg
   have hset : (List.take (i * sz u + off) cur.toList ++ [a.eval v] ++ List.drop (i * sz u + off + [a.eval v].length) cur.toList) = cur.toList.set (i * sz u + off) (a.eval v) := by
     rw [List.set_eq_take_append_cons_drop, if_pos (by simp; omega)]
     simp
   rw [hset] at hnew
   refine ⟨hF, hblk, cs.set (i * sz u + off) (a.eval v), ⟨by simp [hl1], .inr ⟨(ρ c).blk, cap, _, by rw [hv']; simp, Nat.zero_le _, by rw [hset]; exact hnew, by simpa using hcap, hm, by simp [hsz], ?_⟩⟩, fun j z hz => ?_⟩
   · rw [← ht]
     simp [List.take_set]
   · by_cases hji : i = j
     · subst hji
       rw [List.getElem?_set_self hil] at hz
       injection hz with hz
       subst hz
       have hd := hrec i y hy
       refine DenU.mk u y' _ hwf fun q hq => ?_
       rw [hc q hq]
       by_cases hqo : q = off
       · rw [if_pos hqo]
         subst hqo
         exact ⟨a.eval v, by rw [List.getElem?_set_self (by omega)], Den.mono he _ _ e2⟩
       · rw [if_neg hqo]
         obtain ⟨x, hx, hx2⟩ := DenU.cell u y _ q hd hq
         exact ⟨x, by rw [List.getElem?_set_ne (by omega)]; exact hx, Den.mono he _ _ hx2⟩
     · rw [List.getElem?_set_ne hji] at hz
       have hd := hrec j z hz
       refine DenU.mk u z _ (DenU.wf u z _ hd) fun q hq => ?_
       obtain ⟨x, hx, hx2⟩ := DenU.cell u z _ q hd hq
       refine ⟨x, ?_, Den.mono he _ _ hx2⟩
       rw [List.getElem?_set_ne ?_]
       · exact hx
       · intro e
         have h1 : (i * sz u + off) / sz u = i := by rw [Nat.mul_comm, Nat.mul_add_div (by omega), Nat.div_eq_of_lt hoff, Nat.add_zero]
         have h2 : (j * sz u + q) / sz u = j := by rw [Nat.mul_comm, Nat.mul_add_div (by omega), Nat.div_eq_of_lt hq, Nat.add_zero]
         rw [e, h2] at h1
         exact hji h1.symm
end
theorem intCell {I : Nat → Prop} {w : World} {n : Int} {z : Value} (h : Den I w (.int .i64 n) z) : z.cells = List.toArray [z] ∧ z.oneCell' = true := by
 have h : z = .int .i64 n := h
 subst h
 exact ⟨rfl, rfl⟩
theorem intI : (Tryz.prog.info? 3).map (·.size) = some 1 := by kernel_rfl
/-! ### extents -/
@[reducible] def uEx : U := .pr uI (.pr uI uI)
abbrev Xt := Int × Int × Int
def exEnd (l : List Xt) : Int := match l.getLast? with
 | none => 0
 | some x => x.1 + x.2.1
/-- One place of a kind more. -/
def exAdd (l : List Xt) (n k : Int) : List Xt := if n < 1 then l else match l.getLast? with
 | some x => if x.2.2 = k then l.set (l.length - 1) (x.1, x.2.1 + n, x.2.2) else l ++ [(exEnd l, n, k)]
 | none => l ++ [(exEnd l, n, k)]
theorem last_get {α : Type} {l : List α} {x : α} (h : l.getLast? = some x) : 0 < l.length ∧ lget l (l.length - 1) = some x := by
 rw [List.getLast?_eq_getElem?] at h
 exact ⟨by have := (List.getElem?_eq_some_iff.1 h).1; omega, h⟩
theorem last_none {α : Type} {l : List α} (h : l.getLast? = none) : l = [] := by simpa using h
theorem send_fn (l : List Xt) (hb : ∀ x, l.getLast? = some x → -4611686018427387904 ≤ x.1 ∧ x.1 ≤ 4611686018427387903 ∧ -4611686018427387904 ≤ x.2.1 ∧ x.2.1 ≤ 4611686018427387903) (hl : l.length ≤ 4294967296) :
   Fn Tryz.prog 290 [vOwn 1001] [(1001, .row 89 uEx l)] [] (vI (exEnd l)) [(1001, .row 89 uEx l)] := by
 refine Fn.of tblOK [] _ _ _ _ _ Tryz.func290 rfl rfl (by kernel_rfl) (by kernel_rfl) rfl (drawOK tblOK) rfl ?_
 refine ⟨fun h => ?_, fun h => ?_⟩
 · have h : ((l.length : Nat) : Int) = 0 := of_decide_eq_true h
   have h0 : l = [] := List.length_eq_zero_iff.1 (by omega)
   subst h0
   exact ⟨_, _, _, Le.refl _ _, rfl, rfl, ⟨rfl, trivial⟩, rfl⟩
 · have h : ¬ ((l.length : Nat) : Int) = 0 := of_decide_eq_false h
   cases hx : l.getLast? with
   | none => rw [last_none hx] at h; exact absurd rfl h
   | some x =>
     have hb := hb x hx
     obtain ⟨h0, hg⟩ := last_get hx
     have e : (((l.length : Nat) : Int) - 1).toNat = l.length - 1 := by omega
     have m : (-9223372036854775808 : Int) ≤ ((l.length : Nat) : Int) - 1 ∧ ((l.length : Nat) : Int) - 1 ≤ 9223372036854775807 := by omega
     have m2 : (0 : Int) ≤ ((l.length : Nat) : Int) - 1 ∧ (((l.length : Nat) : Int) - 1).toNat < l.length := by omega
     have m3 : (-9223372036854775808 : Int) ≤ x.1 + x.2.1 ∧ x.1 + x.2.1 ≤ 9223372036854775807 := by omega
     have hg' : lget l (((l.length : Nat) : Int) - 1).toNat = some x := by rw [e]; exact hg
     refine ⟨m, ⟨m2.1, by omega⟩, x, hg', m, ⟨m2.1, by omega⟩, x, hg', m3, rfl, ?_⟩
     exact ⟨_, _, _, Le.refl _ _, rfl, (show x.1 + x.2.1 = exEnd l by unfold exEnd; rw [hx]), ⟨rfl, trivial⟩, rfl⟩
theorem sadd_fn (l : List Xt) (n k : Int) (hb : ∀ x, l.getLast? = some x → -4611686018427387904 ≤ x.1 ∧ x.1 ≤ 4611686018427387903 ∧ -4611686018427387904 ≤ x.2.1 ∧ x.2.1 ≤ 4611686018427387903) (hn : n ≤ 4611686018427387903) (hl : l.length ≤ 1000000000) :
   Fn Tryz.prog 221 [vOwn 1001, vI n, vI k] [(1001, .row 89 uEx l)] [1002] (vOwn 1002) [(1002, .row 89 uEx (exAdd l n k))] := by
 obtain ⟨ii, ii1, ii2⟩ := inf_of intI
 have hend := send_fn l hb (by omega)
 refine Fn.of tblOK [] _ _ _ _ _ Tryz.func221 rfl rfl (by kernel_rfl) (by kernel_rfl) rfl (drawOK tblOK) rfl ?_
 refine ⟨fun h => ?_, fun h => ?_⟩
 · have h : n < 1 := of_decide_eq_true h
   have e : exAdd l n k = l := if_pos h
   exact ⟨_, _, _, Le.ren 1001 1002 rfl, rfl, rfl, ⟨congrArg (fun z : List Xt => some (Ch.row 89 uEx z)) e.symm, trivial⟩, rfl⟩
 have h : ¬ n < 1 := of_decide_eq_false h
 have m : (-9223372036854775808 : Int) ≤ ((l.length : Nat) : Int) - 1 ∧ ((l.length : Nat) : Int) - 1 ≤ 9223372036854775807 := by omega
 refine ⟨m, ?_⟩
 cases hx : l.getLast? with
 | none =>
   have h0 := last_none hx
   subst h0
   refine ⟨fun h2 => absurd h2 (by decide), fun _ => ?_⟩
   refine ⟨_, _, _, _, hend, ⟨rfl, trivial⟩, rfl, ?_⟩
   refine ⟨(show (0 + 1 : Nat) ≤ 4294967296 from by decide), rfl, ?_⟩
   have e : exAdd [] n k = [(exEnd [], n, k)] := by unfold exAdd; rw [if_neg h]; rfl
   exact ⟨_, _, _, Le.ren 42 1002 rfl, rfl, rfl, ⟨congrArg (fun z : List Xt => some (Ch.row 89 uEx z)) e.symm, trivial⟩, rfl⟩
 | some x =>
   have hb := hb x hx
   obtain ⟨h0, hg⟩ := last_get hx
   have e : (((l.length : Nat) : Int) - 1).toNat = l.length - 1 := by omega
   have hg' : lget l (((l.length : Nat) : Int) - 1).toNat = some x := by rw [e]; exact hg
   have m2 : (0 : Int) ≤ ((l.length : Nat) : Int) - 1 ∧ ((l.length : Nat) : Int) - 1 < l.length := by omega
   refine ⟨fun _ => ?_, fun h2 => ?_⟩
   · refine ⟨m2, x, hg', ?_⟩
     refine ⟨fun hk => ?_, fun hk => ?_⟩
     · have hk : x.2.2 = k := of_decide_eq_true hk
       have m3 : (-9223372036854775808 : Int) ≤ x.2.1 + n ∧ x.2.1 + n ≤ 9223372036854775807 := by omega
       refine ⟨m2, x, hg', m3, m2, ?_⟩
       refine ⟨_, _, fun N => opOK_rowSet (u := uEx) (y := x) (y' := ((x.1, x.2.1 + n, x.2.2) : Xt)) (off := 1) rfl ii1 ii2 rfl rfl rfl hg' (by decide) ⟨trivial, trivial, trivial⟩ (fun j hj => ?_) intCell N, rfl, ?_⟩
       · match j, hj with
         | 0, _ => rfl
         | 1, _ => rfl
         | 2, _ => rfl
       have e2 : exAdd l n k = l.set (((l.length : Nat) : Int) - 1).toNat (x.1, x.2.1 + n, x.2.2) := by
         unfold exAdd
         rw [if_neg h, hx, e]
         show (if x.2.2 = k then _ else _) = _
         rw [if_pos hk]
       exact ⟨_, _, _, Le.ren 1001 1002 rfl, rfl, rfl, ⟨congrArg (fun z : List Xt => some (Ch.row 89 uEx z)) e2.symm, trivial⟩, rfl⟩
     · have hk : ¬ x.2.2 = k := of_decide_eq_false hk
       refine ⟨_, _, _, _, hend, ⟨rfl, trivial⟩, rfl, ?_⟩
       have m4 : List.length (α := Xt) l + 1 ≤ 4294967296 := by omega
       refine ⟨m4, rfl, ?_⟩
       have e2 : exAdd l n k = l ++ [(exEnd l, n, k)] := by
         unfold exAdd
         rw [if_neg h, hx]
         show (if x.2.2 = k then _ else _) = _
         rw [if_neg hk]
       exact ⟨_, _, _, Le.ren 42 1002 rfl, rfl, rfl, ⟨congrArg (fun z : List Xt => some (Ch.row 89 uEx z)) e2.symm, trivial⟩, rfl⟩
   · have h2 : ¬ ((l.length : Nat) : Int) - 1 ≥ 0 := of_decide_eq_false h2
     omega
/-! ### Of -/
def exOf (ks : List Int) : List Xt := ks.foldl (fun l k => exAdd l 1 k) []
/-- What a row tells of kinds. -/
structure ExOK (ks : List Int) (l : List Xt) : Prop where
 end_ : exEnd l = (ks.length : Int)
 each : ∀ x, x ∈ l → 0 ≤ x.1 ∧ 1 ≤ x.2.1 ∧ x.1 + x.2.1 ≤ (ks.length : Int) ∧ ∀ k : Nat, x.1 ≤ (k : Int) → (k : Int) < x.1 + x.2.1 → ks[k]? = some x.2.2
 len : l.length ≤ ks.length
theorem exEnd_snoc (l : List Xt) (x : Xt) : exEnd (l ++ [x]) = x.1 + x.2.1 := by
 unfold exEnd
 rw [List.getLast?_concat]
theorem ExOK.add {ks : List Int} {l : List Xt} (h : ExOK ks l) (k : Int) : ExOK (ks ++ [k]) (exAdd l 1 k) := by
 have hold : ∀ x, x ∈ l → 0 ≤ x.1 ∧ 1 ≤ x.2.1 ∧ x.1 + x.2.1 ≤ ((ks ++ [k]).length : Int) ∧ ∀ j : Nat, x.1 ≤ (j : Int) → (j : Int) < x.1 + x.2.1 → (ks ++ [k])[j]? = some x.2.2 := fun x hx => by
   obtain ⟨h1, h2, h3, h4⟩ := h.each x hx
   refine ⟨h1, h2, by rw [List.length_append]; simp; omega, fun j hj1 hj2 => ?_⟩
   rw [List.getElem?_append_left (by omega)]
   exact h4 j hj1 hj2
 have hnew : ExOK (ks ++ [k]) (l ++ [(exEnd l, 1, k)]) := by
   refine ⟨?_, fun x hx => ?_, by simp; exact h.len⟩
   · rw [exEnd_snoc, h.end_, List.length_append]
     simp
   · rcases List.mem_append.1 hx with hx | hx
     · exact hold x hx
     · rw [List.mem_singleton] at hx
       subst hx
       refine ⟨by show 0 ≤ exEnd l; rw [h.end_]; omega, (show (1 : Int) ≤ 1 from by decide), by show exEnd l + 1 ≤ _; rw [h.end_, List.length_append]; simp, fun j hj1 hj2 => ?_⟩
       have hj1 : exEnd l ≤ (j : Int) := hj1
       have hj2 : (j : Int) < exEnd l + 1 := hj2
       rw [h.end_] at hj1 hj2
       have : j = ks.length := by omega
       subst this
       rw [List.getElem?_append_right (Nat.le_refl _)]
       simp
 unfold exAdd
 rw [if_neg (by decide)]
 cases hx : l.getLast? with
 | none => exact hnew
 | some x =>
   simp only
   split
   · rename_i hk
     obtain ⟨h0, hg⟩ := last_get hx
     have hxm : x ∈ l := List.mem_of_getElem? hg
     have hend : x.1 + x.2.1 = (ks.length : Int) := by have := h.end_; unfold exEnd at this; rw [hx] at this; exact this
     obtain ⟨h1, h2, h3, h4⟩ := h.each x hxm
     refine ⟨?_, fun y hy => ?_, by rw [List.length_set, List.length_append]; have := h.len; omega⟩
     · unfold exEnd
       rw [List.getLast?_eq_getElem?, List.length_set, List.getElem?_set_self (by omega)]
       show x.1 + (x.2.1 + 1) = _
       rw [List.length_append]
       simp
       omega
     · rcases List.mem_or_eq_of_mem_set hy with hy | rfl
       · exact hold y hy
       · refine ⟨h1, by show 1 ≤ x.2.1 + 1; omega, by show x.1 + (x.2.1 + 1) ≤ _; rw [List.length_append]; simp; omega, fun j hj1 hj2 => ?_⟩
         have hj1 : x.1 ≤ (j : Int) := hj1
         have hj2 : (j : Int) < x.1 + (x.2.1 + 1) := hj2
         show (ks ++ [k])[j]? = some x.2.2
         by_cases hj : (j : Int) < x.1 + x.2.1
         · rw [List.getElem?_append_left (by omega)]
           exact h4 j hj1 hj
         · have : j = ks.length := by omega
           subst this
           rw [List.getElem?_append_right (Nat.le_refl _), hk]
           simp
   · exact hnew
theorem exOf_snoc (ks : List Int) (k : Int) : exOf (ks ++ [k]) = exAdd (exOf ks) 1 k := by
 unfold exOf
 rw [List.foldl_append]
 rfl
theorem exOf_ok (ks : List Int) : ExOK ks (exOf ks) := by
 have key : ∀ n, n ≤ ks.length → ExOK (ks.take n) (exOf (ks.take n)) := fun n => by
   induction n with
   | zero => intro _; exact ⟨rfl, (fun _ h => by cases h), Nat.le_refl _⟩
   | succ n ih =>
     intro hn
     rw [List.take_add_one, List.getElem?_eq_getElem (by omega)]
     show ExOK (ks.take n ++ [ks[n]]) (exOf (ks.take n ++ [ks[n]]))
     rw [exOf_snoc]
     exact (ih (by omega)).add _
 have := key ks.length (Nat.le_refl _)
 rwa [List.take_length] at this
@[reducible] def soK (ks : List Int) (j : Nat) : KL := [(3, vOwn 5002), (9, vL uI ks), (10, vI (ks.length : Nat)), (11, vI (j : Nat))]
theorem sof_fn (ks : List Int) (hk : ks.length ≤ 65536) : Fn Tryz.prog 137 [vL uI ks] [] [] (vL uEx (exOf ks)) [] := by
 refine Fn.of tblOK [] _ _ _ _ _ Tryz.func137 rfl rfl (by kernel_rfl) (by kernel_rfl) rfl (drawOK tblOK) rfl ?_
 refine ⟨fun h => ?_, fun _ => ?_⟩
 · exfalso
   have h : (65536 : Int) < ((ks.length : Nat) : Int) := of_decide_eq_true h
   omega
 show TrQ _ _ _ _ _ _ _
 refine TrQ.loop tblOK (drawOK tblOK) [] (by kernel_rfl) (X := Nat) (soK ks) (fun j => [(5002, .row 89 uEx (exOf (ks.take j)))]) (fun j => j ≤ ks.length) (fun j => ks.length - j) 0 (Nat.zero_le _) ?_ ?_
 · exact (Le.nil 3 5002 89 uEx rfl rfl).trans (Le.sub ⟨rfl, rfl, rfl, rfl, trivial⟩ ⟨rfl, trivial⟩)
 intro j hj
 refine ⟨fun hc => ?_, fun hc => ?_⟩
 · have hc : decide ((j : Int) < ((ks.length : Nat) : Int)) = true := hc
   have hj1 : j < ks.length := by have := of_decide_eq_true hc; omega
   have hok := exOf_ok (ks.take j)
   have hlt : (ks.take j).length = j := by rw [List.length_take]; omega
   have hnx : exOf (ks.take (j + 1)) = exAdd (exOf (ks.take j)) 1 ks[j] := by
     rw [List.take_add_one, List.getElem?_eq_getElem hj1]
     exact exOf_snoc _ _
   refine ⟨by omega, ks[j], lgAt (n := j) hj1, ?_⟩
   refine ⟨_, _, _, _, Fn.ren [(1001, 5002)] (sadd_fn (exOf (ks.take j)) 1 ks[j] (fun x hx => ?_) (by decide) (by have := hok.len; omega)), ⟨rfl, trivial⟩, rfl, ?_⟩
   · have := hok.each x (List.mem_of_getElem? (last_get hx).2)
     omega
   exact ⟨by omega, j + 1, hj1, by omega, Le.trans (Le.sub (K' := [(3, vOwn 1002), (9, vL uI ks), (10, vI (ks.length : Nat)), (11, vI ((j + 1 : Nat) : Int))]) (B' := [(1002, .row 89 uEx (exOf (ks.take (j + 1))))]) ⟨rfl, rfl, rfl, rfl, trivial⟩ ⟨congrArg (fun z : List Xt => some (Ch.row 89 uEx z)) hnx.symm, trivial⟩) ((Le.ren 1002 5002 rfl).trans (Le.sub ⟨rfl, rfl, rfl, rfl, trivial⟩ ⟨rfl, trivial⟩))⟩
 · have hc : decide ((j : Int) < ((ks.length : Nat) : Int)) = false := hc
   have hj2 : j = ks.length := by have := of_decide_eq_false hc; omega
   subst hj2
   exact ⟨_, _, _, Le.frz 5002 rfl, rfl, (show exOf (ks.take ks.length) = exOf ks by rw [List.take_length]), trivial, rfl⟩
section
variable {bits room : Nat} {L : List Dsk}
def rwC (bits : Nat) (L : List Dsk) (nm : List UInt8) : List Xt × Int := match dk L nm with
 | none => ([], 140)
 | some d => (exOf (awyL bits L nm d.im.t.length), 0)
@[reducible] def rwK (nm : List UInt8) (n j : Nat) : KL := [(0, vP 1001), (1, vS nm), (7, vOwn 5002), (23, vI (n : Int)), (24, vI (j : Int))]
@[reducible] def rwB (bits room : Int) (L : List Dsk) (x : List Int) : BL := chB bits room L ++ [(5002, .row 3 uI x)]
@[reducible] def rwK2 (nm : List UInt8) (n j : Nat) : KL := [(0, vP 1001), (1, vS nm), (7, vOwn 37), (23, vI (n : Int)), (24, vI (j : Int))]
@[reducible] def rwB2 (bits room : Int) (L : List Dsk) (x : List Int) : BL := chB bits room L ++ [(37, .row 3 uI x)]
theorem chrow_fn (h : CS bits room L) (nm : List UInt8) : Fn Tryz.prog 34 [vP 1001, vS nm] (chB bits room L) [] (.tup [.one (.d (.lst uEx (rwC bits L nm).1)), vErr (rwC bits L nm).2]) (chB bits room L) := by
 unfold rwC
 cases h0 : dk L nm with
 | none =>
   have hx : (mget (ku := .str) (vu := .adr) (chE L) nm).getD (dflt .adr) = none := by rw [cget, h0]; rfl
   simp only
   refine Fn.of tblOK [] _ _ _ _ _ Tryz.func34 rfl rfl (by kernel_rfl) (by kernel_rfl) rfl (drawOK tblOK) rfl ?_
   refine ⟨fun b' hb => absurd (show (mget (ku := .str) (vu := .adr) (chE L) nm).getD (dflt .adr) = some b' from hb) (by rw [hx]; intro h; cases h), fun _ => ?_⟩
   exact ⟨_, _, _, Le.refl _ _, rfl, ⟨rfl, rfl, trivial⟩, ⟨rfl, rfl, rfl, rfl, trivial⟩, rfl⟩
 | some d0 =>
   obtain ⟨ia, ia1, ia2⟩ := inf_of infAdr
   obtain ⟨o1, o2, o3⟩ := h.ims d0 (dk_get h0).1
   have htl := o1.tl
   have hd := h.dep nm
   have hLd := h.toChN.D (dk_get h0).1
   have hLm := h.toChN.M (dk_get h0).1
   have hx : (mget (ku := .str) (vu := .adr) (chE L) nm).getD (dflt .adr) = some d0.ad := by rw [cget, h0]; rfl
   have hof := sof_fn (awyL bits L nm d0.im.t.length) (by rw [awyL_len]; omega)
   simp only
   refine Fn.of tblOK [] _ _ _ _ _ Tryz.func34 rfl rfl (by kernel_rfl) (by kernel_rfl) rfl (drawOK tblOK) rfl ?_
   refine ⟨fun b' hb => ?_, fun hb => absurd (show (mget (ku := .str) (vu := .adr) (chE L) nm).getD (dflt .adr) = none from hb) (by rw [hx]; intro h; cases h)⟩
   refine ⟨_, _, fun N => opOK_nilAdr (b := d0.ad) rfl (by exact adrV_eq hx) N, rfl, ?_⟩
   refine ⟨_, _, fun N => opOK_fieldAdr rfl Tryz.underlying202 rfl rfl ia1 (by rw [ia2]; decide) rfl N, rfl, ?_⟩
   refine ⟨_, _, fun N => opOK_loadRaw (q := 1003) rfl Tryz.underlying46 rfl rfl rfl hLd rfl N, rfl, ?_⟩
   refine ⟨_, _, _, _, imFn (isize_fn d0.im) hLm rfl rfl rfl rfl, ⟨rfl, trivial⟩, rfl, ?_⟩
   show TrQ _ _ _ _ _ _ _
   refine TrQ.loop tblOK (drawOK tblOK) [] (by kernel_rfl) (X := Nat) (rwK nm d0.im.t.length) (fun j => rwB bits room L (awyL bits L nm j)) (fun j => j ≤ d0.im.t.length) (fun j => d0.im.t.length - j) 0 (Nat.zero_le _) ?_ ?_
   · exact (Le.nil 7 5002 3 uI rfl rfl).trans (Le.sub ⟨rfl, rfl, rfl, rfl, rfl, trivial⟩ ⟨rfl, rfl, rfl, rfl, rfl, trivial⟩)
   intro j hj
   refine ⟨fun hc => ?_, fun hc => ?_⟩
   · have hc : decide ((j : Int) < ((d0.im.t.length : Nat) : Int)) = true := hc
     have hj1 : j < d0.im.t.length := by have := of_decide_eq_true hc; omega
     refine ⟨_, _, _, _, seen_fn bits room L h.toChOK nm d0 h0 (dpt L nm) hd.1 (by omega) j (by omega), ⟨rfl, rfl, rfl, rfl, trivial⟩, rfl, ?_⟩
     have m : List.length (α := Int) (awyL bits L nm j) + 1 ≤ 4294967296 := by rw [awyL_len]; omega
     refine ⟨m, rfl, ?_⟩
     refine ⟨by omega, j + 1, hj1, by omega, ?_⟩
     have e := awyL_succ bits L nm j
     refine Le.trans (Le.sub (K' := rwK2 nm d0.im.t.length (j + 1)) (B' := rwB2 bits room L (awyL bits L nm (j + 1))) ⟨rfl, rfl, rfl, rfl, rfl, trivial⟩ ⟨rfl, rfl, rfl, rfl, congrArg (fun z : List Int => some (Ch.row 3 uI z)) e.symm, trivial⟩) ?_
     exact (Le.ren 37 5002 rfl).trans (Le.sub ⟨rfl, rfl, rfl, rfl, rfl, trivial⟩ ⟨rfl, rfl, rfl, rfl, rfl, trivial⟩)
   · have hc : decide ((j : Int) < ((d0.im.t.length : Nat) : Int)) = false := hc
     have hj2 : j = d0.im.t.length := by have := of_decide_eq_false hc; omega
     subst hj2
     refine ⟨_, _, _, _, (Fn.own (d := 5002) (e := 3) (u := uI) (xs := awyL bits L nm d0.im.t.length) (args := [vOwn 5002]) hof rfl), ⟨rfl, trivial⟩, rfl, ?_⟩
     exact ⟨_, _, _, Le.refl _ _, rfl, ⟨rfl, rfl, trivial⟩, ⟨rfl, rfl, rfl, rfl, trivial⟩, rfl⟩
end
end Go.Proofs.YtojaemgabaehdaaGreat
/-!
  Rows of extents: span.Right, end, Cut, Long, Norm (on data).
-/
namespace Go.Proofs.YtojaemgabaehdaaGreat
set_option linter.unusedVariables false
set_option linter.unusedSimpArgs false
set_option maxRecDepth 10000
open Go.RowKit Go.Proofs
/-- Is a row right, from a place on? -/
def exRt : Int → List Xt → Bool
 | _, [] => true
 | n, x :: l => if x.1 = n ∧ 1 ≤ x.2.1 ∧ x.2.1 ≤ 65536 - n then exRt (n + x.2.1) l else false
theorem exRt_cons (n : Int) (x : Xt) (l : List Xt) : exRt n (x :: l) = if x.1 = n ∧ 1 ≤ x.2.1 ∧ x.2.1 ≤ 65536 - n then exRt (n + x.2.1) l else false := rfl
theorem exRt_last : ∀ {l : List Xt} {n : Int} {x : Xt}, exRt n l = true → 0 ≤ n → l.getLast? = some x → 0 ≤ x.1 ∧ 1 ≤ x.2.1 ∧ x.1 + x.2.1 ≤ 65536
 | [], _, _, _, _, h => by cases h
 | y :: l, n, x, h, hn, hx => by
   unfold exRt at h
   split at h
   · rename_i hc
     cases l with
     | nil =>
       simp at hx
       subst hx
       omega
     | cons z l =>
       rw [List.getLast?_cons_cons] at hx
       exact exRt_last h (by omega) hx
   · cases h
theorem exRt_each : ∀ {l : List Xt} {n : Int}, exRt n l = true → 0 ≤ n → ∀ x, x ∈ l → n ≤ x.1 ∧ 1 ≤ x.2.1 ∧ x.1 + x.2.1 ≤ 65536
 | [], _, _, _, x, hx => by cases hx
 | y :: l, n, h, hn, x, hx => by
   unfold exRt at h
   split at h
   · rename_i hc
     rcases List.mem_cons.1 hx with rfl | hx
     · omega
     · have := exRt_each h (by omega) x hx
       omega
   · cases h
@[reducible] def sgK (l : List Xt) (n : Int) (i : Nat) : KL := [(3, vI n), (6, vL uEx l), (7, vI (l.length : Nat)), (8, vI (i : Nat))]
theorem sright9_fn (l : List Xt) (hl : l.length ≤ 1000000000) (hin : ∀ x, x ∈ l → -4611686018427387904 ≤ x.2.1 ∧ x.2.1 ≤ 4611686018427387903) : Fn Tryz.prog 366 [vL uEx l] [] [] (vB (exRt 0 l)) [] := by
 refine Fn.of tblOK [] _ _ _ _ _ Tryz.func366 rfl rfl (by kernel_rfl) (by kernel_rfl) rfl (drawOK tblOK) rfl ?_
 show TrQ _ _ _ _ _ _ _
 refine TrQ.loop tblOK (drawOK tblOK) [] (by kernel_rfl) (X := Int × Nat) (fun x => sgK l x.1 x.2) (fun _ => []) (fun x => x.2 ≤ l.length ∧ (0 ≤ x.1 ∧ x.1 ≤ 65536) ∧ exRt x.1 (l.drop x.2) = exRt 0 l) (fun x => l.length - x.2) (0, 0) ⟨Nat.zero_le _, ⟨Int.le_refl 0, by omega⟩, rfl⟩ ?_ ?_
 · exact Le.sub ⟨rfl, rfl, rfl, rfl, trivial⟩ trivial
 rintro ⟨n, i⟩ ⟨hi, hn, hr⟩
 have hi : i ≤ l.length := hi
 have hn : 0 ≤ n ∧ n ≤ 65536 := hn
 have hr : exRt n (l.drop i) = exRt 0 l := hr
 refine ⟨fun hc => ?_, fun hc => ?_⟩
 · have hc : decide ((i : Int) < ((l.length : Nat) : Int)) = true := hc
   have hi1 : i < l.length := by have := of_decide_eq_true hc; omega
   have hg := lgAt (n := i) hi1
   have hd : l.drop i = l[i] :: l.drop (i + 1) := List.drop_eq_getElem_cons hi1
   have hx := hin _ (List.getElem_mem hi1)
   rw [hd] at hr
   generalize l[i] = x at *
   rw [exRt_cons] at hr
   have m1 : (0 : Int) ≤ (i : Int) := by omega
   refine ⟨m1, x, hg, rfl, ?_⟩
   refine ⟨fun h1 => ?_, fun h1 => ?_⟩
   · have h1 : (!decide (x.1 = n)) = true := h1
     have h1 : ¬ x.1 = n := by simpa using h1
     rw [if_neg (fun h => h1 h.1)] at hr
     exact ⟨_, _, _, Le.refl _ _, rfl, hr, trivial, rfl⟩
   have h1 : (!decide (x.1 = n)) = false := h1
   have h1 : x.1 = n := by simpa using h1
   refine ⟨fun h2 => ?_, fun h2 => ?_⟩
   · have h2 : x.2.1 < 1 := of_decide_eq_true h2
     rw [if_neg (fun h => by omega)] at hr
     exact ⟨_, _, _, Le.refl _ _, rfl, hr, trivial, rfl⟩
   have h2 : ¬ x.2.1 < 1 := of_decide_eq_false h2
   have m2 : (-9223372036854775808 : Int) ≤ 65536 - n ∧ 65536 - n ≤ 9223372036854775807 := by omega
   refine ⟨m2, ?_⟩
   refine ⟨fun h3 => ?_, fun h3 => ?_⟩
   · have h3 : 65536 - n < x.2.1 := of_decide_eq_true h3
     rw [if_neg (fun h => by omega)] at hr
     exact ⟨_, _, _, Le.refl _ _, rfl, hr, trivial, rfl⟩
   have h3 : ¬ 65536 - n < x.2.1 := of_decide_eq_false h3
   rw [if_pos ⟨h1, by omega, by omega⟩] at hr
   have m3 : (-9223372036854775808 : Int) ≤ n + x.2.1 ∧ n + x.2.1 ≤ 9223372036854775807 := by omega
   have m4 : (-9223372036854775808 : Int) ≤ (i : Int) + 1 ∧ (i : Int) + 1 ≤ 9223372036854775807 := by omega
   refine ⟨m3, m4, ?_⟩
   exact ⟨(n + x.2.1, i + 1), ⟨hi1, (by show 0 ≤ n + x.2.1 ∧ n + x.2.1 ≤ 65536; omega), hr⟩, (by show l.length - (i + 1) < l.length - i; omega), Le.sub ⟨rfl, rfl, rfl, rfl, trivial⟩ trivial⟩
 · have hc : decide ((i : Int) < ((l.length : Nat) : Int)) = false := hc
   have hi2 : i = l.length := by have := of_decide_eq_false hc; omega
   subst hi2
   rw [List.drop_length] at hr
   exact ⟨_, _, _, Le.refl _ _, rfl, hr, trivial, rfl⟩
/-- Where a row (data) ends. -/
theorem sendD_fn (l : List Xt) (hb : ∀ x, l.getLast? = some x → -4611686018427387904 ≤ x.1 ∧ x.1 ≤ 4611686018427387903 ∧ -4611686018427387904 ≤ x.2.1 ∧ x.2.1 ≤ 4611686018427387903) (hl : l.length ≤ 4294967296) :
   Fn Tryz.prog 290 [vL uEx l] [] [] (vI (exEnd l)) [] := by
 refine Fn.of tblOK [] _ _ _ _ _ Tryz.func290 rfl rfl (by kernel_rfl) (by kernel_rfl) rfl (drawOK tblOK) rfl ?_
 refine ⟨fun h => ?_, fun h => ?_⟩
 · have h : ((l.length : Nat) : Int) = 0 := of_decide_eq_true h
   have h0 : l = [] := List.length_eq_zero_iff.1 (by omega)
   subst h0
   exact ⟨_, _, _, Le.refl _ _, rfl, rfl, trivial, rfl⟩
 · have h : ¬ ((l.length : Nat) : Int) = 0 := of_decide_eq_false h
   cases hx : l.getLast? with
   | none => rw [last_none hx] at h; exact absurd rfl h
   | some x =>
     have hb := hb x hx
     obtain ⟨h0, hg⟩ := last_get hx
     have e : (((l.length : Nat) : Int) - 1).toNat = l.length - 1 := by omega
     have m : (-9223372036854775808 : Int) ≤ ((l.length : Nat) : Int) - 1 ∧ ((l.length : Nat) : Int) - 1 ≤ 9223372036854775807 := by omega
     have m2 : (0 : Int) ≤ ((l.length : Nat) : Int) - 1 := by omega
     have m3 : (-9223372036854775808 : Int) ≤ x.1 + x.2.1 ∧ x.1 + x.2.1 ≤ 9223372036854775807 := by omega
     have hg' : lget l (((l.length : Nat) : Int) - 1).toNat = some x := by rw [e]; exact hg
     refine ⟨m, m2, x, hg', m, m2, x, hg', m3, ?_⟩
     refine ⟨indep_of (by kernel_rfl), ?_⟩
     exact ⟨_, _, _, Le.refl _ _, rfl, (show x.1 + x.2.1 = exEnd l by unfold exEnd; rw [hx]), trivial, rfl⟩
/-! ### Cut -/
def exCutF (fr lg : Int) (out : List Xt) (x : Xt) : List Xt := exAdd out (min (x.1 + x.2.1) (fr + lg) - max x.1 fr) x.2.2
def exCutOK (l : List Xt) (fr lg : Int) : Bool := exRt 0 l && (decide (1 ≤ lg) && (decide (0 ≤ fr) && (decide (lg ≤ exEnd l) && decide (fr ≤ exEnd l - lg))))
def exCut (l : List Xt) (fr lg : Int) : List Xt := if exCutOK l fr lg = true then l.foldl (exCutF fr lg) [] else []
theorem exAdd_last {l : List Xt} {n k B : Int} (h : ∀ x, l.getLast? = some x → 0 ≤ x.1 ∧ 0 ≤ x.2.1 ∧ x.1 + x.2.1 ≤ B) (hB : 0 ≤ B) {C : Int} (hC : B + n ≤ C) (hBC : B ≤ C) : ∀ x, (exAdd l n k).getLast? = some x → 0 ≤ x.1 ∧ 0 ≤ x.2.1 ∧ x.1 + x.2.1 ≤ C := by
 intro x hx
 unfold exAdd at hx
 split at hx
 · have := h x hx
   omega
 rename_i hn
 have hend : 0 ≤ exEnd l ∧ exEnd l ≤ B := by
   unfold exEnd
   split
   · omega
   · rename_i y hy
     have := h y hy
     omega
 split at hx
 · rename_i y hy
   have hyb := h y hy
   split at hx
   · obtain ⟨h0, hg⟩ := last_get hy
     rw [List.getLast?_eq_getElem?, List.length_set, List.getElem?_set_self (by omega)] at hx
     injection hx with hx
     subst hx
     show 0 ≤ y.1 ∧ 0 ≤ y.2.1 + n ∧ y.1 + (y.2.1 + n) ≤ C
     omega
   · rw [List.getLast?_append] at hx
     simp at hx
     subst hx
     show 0 ≤ exEnd l ∧ 0 ≤ n ∧ exEnd l + n ≤ C
     omega
 · rw [List.getLast?_append] at hx
   simp at hx
   subst hx
   show 0 ≤ exEnd l ∧ 0 ≤ n ∧ exEnd l + n ≤ C
   omega
theorem exAdd_len (l : List Xt) (n k : Int) : (exAdd l n k).length ≤ l.length + 1 := by
 unfold exAdd
 split
 · omega
 split
 · split
   · rw [List.length_set]; omega
   · rw [List.length_append]; exact Nat.le_refl _
 · rw [List.length_append]; exact Nat.le_refl _
@[reducible] def cuK (l : List Xt) (fr lg : Int) (i : Nat) : KL := [(1, vI fr), (2, vI lg), (7, vOwn 5002), (37, vL uEx l), (38, vI (l.length : Nat)), (39, vI (i : Nat))]
@[reducible] def cuK2 (l : List Xt) (fr lg : Int) (i : Nat) : KL := [(1, vI fr), (2, vI lg), (7, vOwn 1002), (37, vL uEx l), (38, vI (l.length : Nat)), (39, vI (i : Nat))]
@[reducible] def cuB (out : List Xt) : BL := [(5002, .row 89 uEx out)]
@[reducible] def cuB2 (out : List Xt) : BL := [(1002, .row 89 uEx out)]
def exCutN (l : List Xt) (fr lg : Int) (i : Nat) : List Xt := (l.take i).foldl (exCutF fr lg) []
theorem exCutN_succ {l : List Xt} {fr lg : Int} {i : Nat} (h : i < l.length) : exCutN l fr lg (i + 1) = exAdd (exCutN l fr lg i) (min (l[i].1 + l[i].2.1) (fr + lg) - max l[i].1 fr) l[i].2.2 := by
 unfold exCutN
 rw [List.take_add_one, List.getElem?_eq_getElem h]
 show ((l.take i) ++ [l[i]]).foldl _ _ = _
 rw [List.foldl_append]
 rfl
theorem exCutN_len (l : List Xt) (fr lg : Int) (i : Nat) : (exCutN l fr lg i).length ≤ i := by
 unfold exCutN
 have : ∀ (m : List Xt) (out : List Xt), (m.foldl (exCutF fr lg) out).length ≤ out.length + m.length := by
   intro m
   induction m with
   | nil => intro out; exact Nat.le_refl _
   | cons x m ih =>
     intro out
     have h1 := ih (exCutF fr lg out x)
     have h2 := exAdd_len out (min (x.1 + x.2.1) (fr + lg) - max x.1 fr) x.2.2
     show (m.foldl (exCutF fr lg) (exCutF fr lg out x)).length ≤ out.length + (m.length + 1)
     have h3 : (exCutF fr lg out x).length ≤ out.length + 1 := h2
     omega
 have h := this (l.take i) []
 have h2 : (l.take i).length ≤ i := by rw [List.length_take]; omega
 have h3 : ([] : List Xt).length = 0 := rfl
 omega
theorem exCutN_last {l : List Xt} {fr lg : Int} (hr : exRt 0 l = true) (hlg : 0 ≤ fr) (hlg2 : 0 ≤ lg) : ∀ i, i ≤ l.length → ∀ x, (exCutN l fr lg i).getLast? = some x → 0 ≤ x.1 ∧ 0 ≤ x.2.1 ∧ x.1 + x.2.1 ≤ 65536 * (i : Int)
 | 0, _, x, hx => by cases hx
 | i + 1, hi, x, hx => by
   have hi1 : i < l.length := by omega
   rw [exCutN_succ hi1] at hx
   have he := exRt_each hr (Int.le_refl 0) _ (List.getElem_mem hi1)
   exact exAdd_last (exCutN_last hr hlg hlg2 i (by omega)) (by omega) (by omega) (by omega) x hx
theorem scut_no (l : List Xt) (fr lg : Int) (hl : l.length ≤ 1000000000) (hin : ∀ x, x ∈ l → -4611686018427387904 ≤ x.2.1 ∧ x.2.1 ≤ 4611686018427387903) (h : exCutOK l fr lg = false) : Fn Tryz.prog 342 [vL uEx l, vI fr, vI lg] [] [] (v1 .nils) [] := by
 have hr := sright9_fn l hl hin
 have he : exRt 0 l = true → _ := fun hc => sendD_fn l (fun x hx => by have := exRt_last hc (Int.le_refl 0) hx; omega) (by omega)
 have heb : exRt 0 l = true → 0 ≤ exEnd l ∧ exEnd l ≤ 65536 := by
   intro hc
   unfold exEnd
   split
   · omega
   · rename_i y hy
     have := exRt_last hc (Int.le_refl 0) hy
     omega
 unfold exCutOK at h
 cases hc : exRt 0 l with
 | false =>
   rw [hc] at hr
   refine Fn.of tblOK [] _ _ _ _ _ Tryz.func342 rfl rfl (by kernel_rfl) (by kernel_rfl) rfl (drawOK tblOK) rfl ?_
   refine ⟨_, _, _, _, hr, trivial, rfl, ?_⟩
   refine ⟨fun _ => ?_, fun h => absurd h (by decide)⟩
   exact ⟨_, _, _, Le.refl _ _, rfl, rfl, trivial, rfl⟩
 | true =>
   rw [hc] at hr h
   have he := he hc
   have heb := heb hc
   generalize exEnd l = e at *
   refine Fn.of tblOK [] _ _ _ _ _ Tryz.func342 rfl rfl (by kernel_rfl) (by kernel_rfl) rfl (drawOK tblOK) rfl ?_
   refine ⟨_, _, _, _, hr, trivial, rfl, ?_⟩
   refine ⟨fun h => absurd h (by decide), fun _ => ?_⟩
   refine ⟨fun h1 => ?_, fun h1 => ?_⟩
   · exact ⟨_, _, _, Le.refl _ _, rfl, rfl, trivial, rfl⟩
   have h1 : ¬ lg < 1 := of_decide_eq_false h1
   refine ⟨fun h2 => ?_, fun h2 => ?_⟩
   · exact ⟨_, _, _, Le.refl _ _, rfl, rfl, trivial, rfl⟩
   have h2 : ¬ fr < 0 := of_decide_eq_false h2
   refine ⟨_, _, _, _, he, trivial, rfl, ?_⟩
   refine ⟨fun h3 => ?_, fun h3 => ?_⟩
   · exact ⟨_, _, _, Le.refl _ _, rfl, rfl, trivial, rfl⟩
   have h3 : ¬ e < lg := of_decide_eq_false h3
   refine ⟨_, _, _, _, he, trivial, rfl, ?_⟩
   have m1 : (-9223372036854775808 : Int) ≤ e - lg ∧ e - lg ≤ 9223372036854775807 := by omega
   refine ⟨m1, ?_⟩
   refine ⟨fun h4 => ?_, fun h4 => ?_⟩
   · exact ⟨_, _, _, Le.refl _ _, rfl, rfl, trivial, rfl⟩
   have h4 : ¬ e - lg < fr := of_decide_eq_false h4
   rw [decide_eq_true (show 1 ≤ lg by omega), decide_eq_true (show 0 ≤ fr by omega), decide_eq_true (show lg ≤ e by omega), decide_eq_true (show fr ≤ e - lg by omega)] at h
   cases h
set_option maxHeartbeats 1000000 in
theorem scut_ok (l : List Xt) (fr lg : Int) (hl : l.length ≤ 1000000) (hin : ∀ x, x ∈ l → -4611686018427387904 ≤ x.2.1 ∧ x.2.1 ≤ 4611686018427387903) (h : exCutOK l fr lg = true) : Fn Tryz.prog 342 [vL uEx l, vI fr, vI lg] [] [1002] (vOwn 1002) (cuB2 (exCut l fr lg)) := by
 have hr := sright9_fn l (by omega) hin
 have hcut : exCut l fr lg = exCutN l fr lg l.length := by
   unfold exCut exCutN
   rw [if_pos h, List.take_length]
 rw [hcut]
 unfold exCutOK at h
 simp only [Bool.and_eq_true, decide_eq_true_eq] at h
 obtain ⟨hc, h1, h2, h3, h4⟩ := h
 rw [hc] at hr
 have he := sendD_fn l (fun x hx => by have := exRt_last hc (Int.le_refl 0) hx; omega) (by omega)
 have heb : 0 ≤ exEnd l ∧ exEnd l ≤ 65536 := by
   unfold exEnd
   split
   · omega
   · rename_i y hy
     have := exRt_last hc (Int.le_refl 0) hy
     omega
 have hlast := exCutN_last hc h2 (show 0 ≤ lg by omega)
 have heach := exRt_each hc (Int.le_refl 0)
 have hlen := exCutN_len l fr lg
 generalize exEnd l = e at *
 have m1 : (-9223372036854775808 : Int) ≤ e - lg ∧ e - lg ≤ 9223372036854775807 := by omega
 have m2 : (-9223372036854775808 : Int) ≤ fr + lg ∧ fr + lg ≤ 9223372036854775807 := by omega
 refine Fn.of tblOK [] _ _ _ _ _ Tryz.func342 rfl rfl (by kernel_rfl) (by kernel_rfl) rfl (drawOK tblOK) rfl ?_
 refine ⟨_, _, _, _, hr, trivial, rfl, ?_⟩
 refine ⟨fun h => absurd h (by decide), fun _ => ?_⟩
 refine ⟨fun h => absurd (of_decide_eq_true h) (by omega), fun _ => ?_⟩
 refine ⟨fun h => absurd (of_decide_eq_true h) (by omega), fun _ => ?_⟩
 refine ⟨_, _, _, _, he, trivial, rfl, ?_⟩
 refine ⟨fun h => absurd (of_decide_eq_true h) (by omega), fun _ => ?_⟩
 refine ⟨_, _, _, _, he, trivial, rfl, ?_⟩
 refine ⟨m1, ?_⟩
 refine ⟨fun h => absurd (of_decide_eq_true h) (by omega), fun _ => ?_⟩
 show TrQ _ _ _ _ _ _ _
 refine TrQ.loop tblOK (drawOK tblOK) [] (by kernel_rfl) (X := Nat) (fun i => cuK l fr lg i) (fun i => cuB (exCutN l fr lg i)) (fun i => i ≤ l.length) (fun i => l.length - i) 0 (Nat.zero_le _) ?_ ?_
 · exact (Le.nil 7 5002 89 uEx rfl rfl).trans (Le.sub ⟨rfl, rfl, rfl, rfl, rfl, rfl, trivial⟩ ⟨rfl, trivial⟩)
 intro i hi
 have hi : i ≤ l.length := hi
 have hlast := hlast i hi
 have hlen := hlen i
 refine ⟨fun hc => ?_, fun hc => ?_⟩
 · have hc : decide ((i : Int) < ((l.length : Nat) : Int)) = true := hc
   have hi1 : i < l.length := by have := of_decide_eq_true hc; omega
   have hg := lgAt (n := i) hi1
   have hx := heach _ (List.getElem_mem hi1)
   have hnx := exCutN_succ (fr := fr) (lg := lg) hi1
   generalize l[i] = x at *
   have p1 : (0 : Int) ≤ (i : Int) := by omega
   have p2 : (-9223372036854775808 : Int) ≤ x.1 + x.2.1 ∧ x.1 + x.2.1 ≤ 9223372036854775807 := by omega
   have p3 : (-9223372036854775808 : Int) ≤ min (x.1 + x.2.1) (fr + lg) - max x.1 fr ∧ min (x.1 + x.2.1) (fr + lg) - max x.1 fr ≤ 9223372036854775807 := by omega
   have p4 : (-9223372036854775808 : Int) ≤ (i : Int) + 1 ∧ (i : Int) + 1 ≤ 9223372036854775807 := by omega
   have p5 : min (x.1 + x.2.1) (fr + lg) - max x.1 fr ≤ 4611686018427387903 := by omega
   have ha := sadd_fn (exCutN l fr lg i) (min (x.1 + x.2.1) (fr + lg) - max x.1 fr) x.2.2 (fun y hy => by have := hlast y hy; omega) p5 (by omega)
   rw [← hnx] at ha
   refine ⟨p1, x, hg, rfl, p2, m2, ?_⟩
   refine ⟨indep_of (by kernel_rfl), p3, ?_⟩
   refine ⟨_, _, _, _, Fn.ren [(1001, 5002)] ha, ⟨rfl, trivial⟩, rfl, ?_⟩
   exact ⟨p4, i + 1, hi1, by show l.length - (i + 1) < l.length - i; omega, Le.trans (Le.sub (K' := cuK2 l fr lg (i + 1)) (B' := cuB2 (exCutN l fr lg (i + 1))) ⟨rfl, rfl, rfl, rfl, rfl, rfl, trivial⟩ ⟨rfl, trivial⟩) ((Le.ren 1002 5002 rfl).trans (Le.sub ⟨rfl, rfl, rfl, rfl, rfl, rfl, trivial⟩ ⟨rfl, trivial⟩))⟩
 · have hc : decide ((i : Int) < ((l.length : Nat) : Int)) = false := hc
   have hi2 : i = l.length := by have := of_decide_eq_false hc; omega
   subst hi2
   exact ⟨_, _, _, Le.ren 5002 1002 rfl, rfl, rfl, ⟨rfl, trivial⟩, rfl⟩
/-- A part, as data. -/
theorem scut_fn (l : List Xt) (fr lg : Int) (hl : l.length ≤ 1000000) (hin : ∀ x, x ∈ l → -4611686018427387904 ≤ x.2.1 ∧ x.2.1 ≤ 4611686018427387903) : Fn Tryz.prog 342 [vL uEx l, vI fr, vI lg] [] [] (vL uEx (exCut l fr lg)) [] := by
 cases h : exCutOK l fr lg with
 | false =>
   have e : exCut l fr lg = [] := by unfold exCut; rw [h]; rfl
   rw [e]
   exact (scut_no l fr lg (by omega) hin h).res rfl
 | true => exact Fn.frz (Bo := []) (scut_ok l fr lg hl hin h) rfl rfl
end Go.Proofs.YtojaemgabaehdaaGreat
/-!
  maps.Clone.
-/
namespace Go.Proofs.YtojaemgabaehdaaGreat
set_option linter.unusedVariables false
set_option linter.unusedSimpArgs false
set_option maxRecDepth 10000
open Go.RowKit Go.Proofs
theorem mapsClone_gen {ρ : Go.Shelf.Ren} (L : SlLaysW.n5 Tryz.prog ρ) (hcall : callable Tryz.prog (ρ.f 5) = true) {ku vu : U} (es : List (El ku × El vu)) :
   Fn Tryz.prog (ρ.f 5) [.c (.one (.mp 1001))] [(1001, .map ku vu es)] [2001] (.c (.one (.mp 2001))) [(1001, .map ku vu es), (2001, .map ku vu es)] := by
 refine ⟨hcall, fun ρ F I w vals hI hH hF hdj hlen hden => ?_⟩
 match vals, hlen with
 | [v], _ =>
   obtain rfl : v = .map (some (ρ 1001).blk) := hden 0 _ v rfl rfl
   obtain ⟨hF1, ents, clock, hb, hm, hB⟩ := hH 1001 _ rfl
   refine (AnyW.maps_Clone L _ _ _ w hb).mono ?_
   rintro e w' ⟨rfl, rfl⟩
   have hbel : Below w.heap.size w (w.alloc (.map (List.toArray ents) clock)) := (Below.refl _ _).alloc (Nat.le_refl _) _
   have hE : Ext I w I (w.alloc (.map (List.toArray ents) clock)) := fun b hbI => ⟨hbI, hbel.block b (hI b hbI)⟩
   have hlt := lt_of_heap hb
   refine ⟨_, upd ρ 2001 ⟨w.heap.size, none, 0, 0⟩, upd F 2001 (fun b => b = w.heap.size), rfl, Fr.of_below hbel, fun c hc => upd_other _ _ (fun e => hc (by simp [e])), I, hE, fun b hbI => ⟨Nat.lt_of_lt_of_le (hI b hbI) hbel.size, .inl hbI⟩, ?_, ?_, ?_, ?_⟩
   · intro c ch hc
     rw [lookB_cons] at hc
     split at hc
     · rename_i hc1; subst hc1; injection hc with hc; subst hc
       rw [upd_other _ _ (by decide), upd_other _ _ (by decide)]
       exact ⟨hF1, ents, clock, (hbel.block _ hlt).trans hb, hm.mono hE, hB⟩
     · rw [lookB_cons] at hc
       split at hc
       · rename_i hc1; subst hc1; injection hc with hc; subst hc
         rw [upd_same, upd_same]
         exact ⟨fun b => Iff.rfl, ents, clock, heap_alloc_new w _, hm.mono hE, hB⟩
       · simp [lookB] at hc
   · intro c ch hc b hbF
     rw [lookB_cons] at hc
     split at hc
     · rename_i hc1; subst hc1
       rw [upd_other _ _ (by decide)] at hbF
       have := hF 1001 _ rfl b hbF
       exact ⟨Nat.lt_of_lt_of_le this.1 hbel.size, this.2, .inl ⟨1001, _, rfl, hbF⟩⟩
     · rw [lookB_cons] at hc
       split at hc
       · rename_i hc1; subst hc1
         rw [upd_same] at hbF
         subst hbF
         exact ⟨by simp, fun hbI => by have := hI _ hbI; omega, .inr (Nat.le_refl _)⟩
       · simp [lookB] at hc
   · intro c c' ch ch' b hc hc' hne hb1 hb2
     have key : ∀ c ch, lookB [(1001, Ch.map ku vu es), (2001, Ch.map ku vu es)] c = some ch → c = 1001 ∨ c = 2001 := fun c ch hc => by
       rw [lookB_cons] at hc
       split at hc
       · rename_i h; exact .inl h.symm
       · rw [lookB_cons] at hc
         split at hc
         · rename_i h; exact .inr h.symm
         · simp [lookB] at hc
     rcases key c ch hc with rfl | rfl <;> rcases key c' ch' hc' with rfl | rfl
     · exact hne rfl
     · rw [upd_other _ _ (by decide)] at hb1
       rw [upd_same] at hb2
       have := (hF 1001 _ rfl b hb1).1
       omega
     · rw [upd_other _ _ (by decide)] at hb2
       rw [upd_same] at hb1
       have := (hF 1001 _ rfl b hb2).1
       omega
     · exact hne rfl
   · show Value.map (some w.heap.size) = Value.map (some (upd ρ 2001 _ 2001).blk)
     rw [upd_same]
end Go.Proofs.YtojaemgabaehdaaGreat
