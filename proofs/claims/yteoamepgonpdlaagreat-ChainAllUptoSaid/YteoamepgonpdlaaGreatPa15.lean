/-
Part 15 of the proof that stands in YteoamepgonpdlaaGreatPaRow, with what it needs from the parts ahead; the parts of this text: Qk, Qe, Rx, Qf, Ql.
-/
import Derived.Test.YteoamepgonpdlaaGreatPa14
/-!
  The program's image and the document's: Write, Zero, Discard, cluster by cluster.
-/
namespace Go.Proofs.YteoamepgonpdlaaGreat
set_option linter.unusedVariables false
set_option linter.unusedSimpArgs false
set_option maxRecDepth 10000
open Go.RowKit Go.Proofs
theorem insTo_eq (n c a l : Nat) : ∀ k, insTo n c a l k = min k (a + l - c * n) - min k (a - c * n)
 | 0 => by simp [insTo]
 | k + 1 => by
   rw [insTo, insTo_eq n c a l k]
   generalize c * n = t
   split <;> omega
/-- All sectors of some bytes, one behind the other. -/
theorem sec_all {Z : List UInt8} {f : Nat → List UInt8} {g : Nat → List UInt8} (hg0 : g 0 = []) (hg : ∀ k, g (k + 1) = g k ++ f k) : ∀ n, 16 * n ≤ Z.length → (∀ k, k < n → sec Z k = f k) → Z.take (16 * n) = g n
 | 0, _, _ => by rw [hg0]; rfl
 | n + 1, hn, hf => by
   rw [hg, ← sec_all hg0 hg n (by omega) fun k hk => hf k (by omega), ← hf n (by omega)]
   unfold sec
   rw [show 16 * (n + 1) = n * 16 + 16 by omega, show 16 * n = n * 16 by omega]
   have e : (Z.take (n * 16 + 16)).take (n * 16) ++ (Z.take (n * 16 + 16)).drop (n * 16) = Z.take (n * 16 + 16) := List.take_append_drop ..
   rw [List.take_take, Nat.min_eq_left (by omega)] at e
   exact e.symm
section
variable {n : Nat} {s : ImS} {m : Rim}
theorem RI.pow (h : RI n s m) : n = 2 ^ s.bits := by
 have := h.wd
 unfold wid at this
 omega
theorem RI.all (h : RI n s m) : iall s = n * (mC m).length := by
 unfold iall
 rw [h.len, h.pow, Nat.mul_comm]
theorem RI.insEq (h : RI n s m) (a l : Int) : iIns s a l = insE n (mC m).length a l := by
 unfold iIns insE
 rw [h.all]
 generalize ((n * (mC m).length : Nat) : Int) = N
 by_cases h1 : l < 0
 · rw [if_pos h1, if_pos h1]
 · rw [if_neg h1, if_neg h1]
   by_cases h2 : a < 0
   · rw [if_pos (.inl h2), if_pos h2]
   · rw [if_neg h2]
     by_cases h3 : N < a
     · rw [if_pos h3, if_pos (by omega)]
     · rw [if_neg h3]
       by_cases h4 : N - a < l
       · rw [if_pos h4, if_pos (by omega)]
       · rw [if_neg h4, if_neg (by omega)]
/-- Which pieces are those of a cluster, and how great. -/
theorem RI.piece (h : RI n s m) {a l : Nat} {c : Nat} : (0 < insTo n c a l n ↔ 16 * a / wid s ≤ c ∧ c < 16 * a / wid s + pcN (wid s) a l) ∧
   (16 * a / wid s ≤ c → c < 16 * a / wid s + pcN (wid s) a l → (pce (wid s) a l (c - 16 * a / wid s)).c = c ∧ (pce (wid s) a l (c - 16 * a / wid s)).b - (pce (wid s) a l (c - 16 * a / wid s)).a = 16 * insTo n c a l n ∧ 16 * a < (c + 1) * wid s ∧ c * wid s < 16 * (a + l)) := by
 have hW := wid_isW h.im.bits
 have n1 := h.ok.n1
 have e1 : c * wid s = 16 * (c * n) := by rw [h.wd, Nat.mul_left_comm]
 have e2 : (c + 1) * wid s = 16 * (c * n) + 16 * n := by rw [Nat.succ_mul, e1, h.wd]
 have hi := insTo_eq n c a l n
 have key : 0 < l → ((16 * a / wid s ≤ c ∧ c < 16 * a / wid s + pcN (wid s) a l) ↔ (16 * a < (c + 1) * wid s ∧ c * wid s < 16 * (a + l))) := fun hl => pc_range hW hl
 have hp : l = 0 → pcN (wid s) a l = 0 := fun e => if_pos e
 rw [e1, e2] at key
 generalize hq : 16 * a / wid s = c0 at *
 refine ⟨?_, fun g1 g2 => ?_⟩
 · rcases Nat.eq_zero_or_pos l with hl | hl
   · have := hp hl
     constructor
     · intro g; omega
     · rintro ⟨g1, g2⟩; omega
   · rw [key hl]
     omega
 · have hl : 0 < l := Nat.pos_of_ne_zero fun e => by have := hp e; omega
   have g := (key hl).1 ⟨g1, g2⟩
   rw [e1, e2]
   have hcc : c0 + (c - c0) = c := by omega
   refine ⟨?_, ?_, g.1, g.2⟩
   · show 16 * a / wid s + (c - c0) = c
     rw [hq]; exact hcc
   · show min (16 * (a + l) - (16 * a / wid s + (c - c0)) * wid s) (wid s) - (16 * a - (16 * a / wid s + (c - c0)) * wid s) = _
     rw [hq, hcc, e1, hi, h.wd]
     omega
theorem RI.lay (h : RI n s m) {a l c : Nat} {bs X : List UInt8} (hbs : bs.length = 16 * l) (hX : X.length = 16 * n) (hin : 16 * a < (c + 1) * wid s ∧ c * wid s < 16 * (a + l)) (hlen : (laid X (pce (wid s) a l (c - 16 * a / wid s)).a ((pce (wid s) a l (c - 16 * a / wid s)).b - (pce (wid s) a l (c - 16 * a / wid s)).a) (bsP bs (pce (wid s) a l (c - 16 * a / wid s)))).length = 16 * n) :
   laid X (pce (wid s) a l (c - 16 * a / wid s)).a ((pce (wid s) a l (c - 16 * a / wid s)).b - (pce (wid s) a l (c - 16 * a / wid s)).a) (bsP bs (pce (wid s) a l (c - 16 * a / wid s))) = ldTo n c a X bs n := by
 have hp := h.pow
 have hb := h.im.bits
 unfold wid at hin hlen ⊢
 subst hp
 have e := sec_all (Z := laid X (pce (16 * 2 ^ s.bits) a l (c - 16 * a / (16 * 2 ^ s.bits))).a ((pce (16 * 2 ^ s.bits) a l (c - 16 * a / (16 * 2 ^ s.bits))).b - (pce (16 * 2 ^ s.bits) a l (c - 16 * a / (16 * 2 ^ s.bits))).a) (bsP bs (pce (16 * 2 ^ s.bits) a l (c - 16 * a / (16 * 2 ^ s.bits))))) (f := ldP (2 ^ s.bits) c a X bs) (g := ldTo (2 ^ s.bits) c a X bs) rfl (fun _ => rfl) (2 ^ s.bits) (Nat.le_of_eq hlen.symm) fun k hk => by
   rw [sec_piece hb hX hbs hin hk]
   unfold ldP sec
   by_cases g : a ≤ c * 2 ^ s.bits + k ∧ c * 2 ^ s.bits + k < a + l
   · rw [if_pos g, if_pos (by generalize c * 2 ^ s.bits = t at *; omega)]
     rw [Nat.mul_comm (c * 2 ^ s.bits + k - a) 16]
   · rw [if_neg g, if_neg (by generalize c * 2 ^ s.bits = t at *; omega), Nat.mul_comm k 16]
 rw [← e]
 exact (List.take_of_length_le (Nat.le_of_eq hlen)).symm
/-- How many pieces lie ahead of a cluster. -/
def ahd (c0 p k : Nat) : Nat := min (k - c0) p
theorem ahd_in {c0 p k : Nat} (h1 : c0 ≤ k) (h2 : k < c0 + p) : ahd c0 p k = k - c0 ∧ ahd c0 p (k + 1) = k - c0 + 1 ∧ k - c0 < p := by unfold ahd; omega
theorem ahd_out {c0 p k : Nat} (h : ¬ (c0 ≤ k ∧ k < c0 + p)) : ahd c0 p (k + 1) = ahd c0 p k := by unfold ahd; omega
theorem ahd_all {c0 p N : Nat} (h : p = 0 ∨ c0 + p ≤ N) : ahd c0 p N = p := by unfold ahd; omega
theorem RI.fits (h : RI n s m) {a l : Nat} (hall : a + l ≤ iall s) : pcN (wid s) a l = 0 ∨ 16 * a / wid s + pcN (wid s) a l ≤ s.t.length := by
 rcases Nat.eq_zero_or_pos (pcN (wid s) a l) with e | e
 · exact .inl e
 · right
   have := (pce_c h.im hall (k := pcN (wid s) a l - 1) (by omega)).1
   have e2 : (pce (wid s) a l (pcN (wid s) a l - 1)).c = 16 * a / wid s + (pcN (wid s) a l - 1) := rfl
   omega
/-! ### Write -/
theorem RI.need (h : RI n s m) {a l : Nat} (hall : a + l ≤ iall s) : needTo n a l false m (mC m).length = ndK s a l (pcN (wid s) a l) := by
 have key : ∀ k, k ≤ s.t.length → needTo n a l false m k = ndK s a l (ahd (16 * a / wid s) (pcN (wid s) a l) k) := fun k => by
   induction k with
   | zero => intro _; unfold ahd; simp [needTo, ndK]
   | succ k ih =>
     intro hk
     have hk1 : k < s.t.length := hk
     obtain ⟨q1, q2⟩ := h.piece (a := a) (l := l) (c := k)
     have hw : qwants n a l false m k = (decide (0 < insTo n k a l n) && decide (kdM m k ≠ 1)) := by
       unfold qwants
       rw [h.own hk1]
       by_cases e : kdM m k = 1 <;> simp [e]
     rw [needTo, ih (by omega), hw]
     by_cases g : 0 < insTo n k a l n
     · obtain ⟨g1, g2⟩ := q1.1 g
       obtain ⟨a1, a2, a3⟩ := ahd_in g1 g2
       rw [a1, a2, decide_eq_true g, Bool.true_and, ndK]
       have e2 : (pce (wid s) a l (k - 16 * a / wid s)).c = k := (q2 g1 g2).1
       rw [e2, h.needs hk1]
       by_cases e : kdM m k = 1
       · rw [decide_eq_false (fun q => q e)]; rfl
       · rw [decide_eq_true e]; rfl
     · rw [ahd_out (fun q => g (q1.2 q)), decide_eq_false g]
       rfl
 rw [h.len, key _ (Nat.le_refl _), ahd_all (h.fits hall)]
theorem clus_bel (h : RI n s m) {c : Nat} (hc : c < s.t.length) {y : List UInt8} {bel : List (List UInt8)} (hb : kdM m c = 0 → bel[c]? = some y ∧ y.length = 16 * n) : clus s c (some y) = clusM n m c bel := by
 have hc2 : c < (mC m).length := by rw [h.len]; exact hc
 have hk := h.kd c hc
 have hct := h.ct c hc
 rw [kdM_at hc2] at hk hct hb
 rw [idM_at hc2] at hct
 unfold clusM
 rw [List.getElem?_eq_getElem hc2]
 simp only
 unfold clus at hct ⊢
 rw [List.getD_eq_getElem?_getD, List.getElem?_eq_getElem hc] at hk
 rw [List.getElem?_eq_getElem hc] at hct ⊢
 simp only [Option.getD_some] at hk hct ⊢
 have hw := h.wd
 by_cases e1 : ceK (mC m)[c] = 1
 · rw [if_pos e1]
   have := hct e1
   rw [if_pos (hk.symm.trans e1)] at this ⊢
   exact this
 · rw [if_neg e1, if_neg (fun q => e1 (hk.trans q))]
   by_cases e0 : ceK (mC m)[c] = 0
   · obtain ⟨hb1, hy⟩ := hb e0
     rw [if_pos e0, if_pos (hk.symm.trans e0), if_pos (hy.trans hw.symm), hb1]
     simp only
     rw [if_pos hy]
   · rw [if_neg e0, if_neg (fun q => e0 (hk.trans q))]
     unfold zer
     rw [hw]
theorem RI.wr (h : RI n s m) {a l : Nat} {bs : List UInt8} (hbl : bs.length = 16 * l) (hall : a + l ≤ iall s) {y : Nat → List UInt8} {bel : List (List UInt8)} (hy : ∀ c, c < s.t.length → kdM m c = 0 → bel[c]? = some (y c) ∧ (y c).length = 16 * n) (hd : (mD m).length + 256 ≤ 100000)
   (hnd : ndK s a l (pcN (wid s) a l) ≤ zeros s.l) : RI n (iwrK s a l bs y (pcN (wid s) a l)) (wTo n a l bs bel false m (mC m).length) := by
 have htl := h.im.tl
 have key : ∀ k, k ≤ s.t.length → RI n (iwrK s a l bs y (ahd (16 * a / wid s) (pcN (wid s) a l) k)) (wTo n a l bs bel false m k) := fun k => by
   induction k with
   | zero => intro _; unfold ahd; simp only [Nat.zero_sub, Nat.zero_min]; exact h
   | succ k ih =>
     intro hk
     have hk1 : k < s.t.length := hk
     have hr := ih (by omega)
     obtain ⟨q1, q2⟩ := h.piece (a := a) (l := l) (c := k)
     rw [wTo]
     by_cases g : 0 < insTo n k a l n
     · obtain ⟨g1, g2⟩ := q1.1 g
       obtain ⟨a1, a2, a3⟩ := ahd_in g1 g2
       obtain ⟨p1, p2, p3, p4⟩ := q2 g1 g2
       rw [a1] at hr
       rw [a2]
       obtain ⟨hI, hs⟩ := wrI h.im hbl hall y hnd (k - 16 * a / wid s) (by omega)
       obtain ⟨hput, _⟩ := hs a3
       have hwl : wid (iwrK s a l bs y (k - 16 * a / wid s)) = wid s := hI.like.wid
       have htl2 : (iwrK s a l bs y (k - 16 * a / wid s)).t.length = s.t.length := hI.like.tl
       have e : stepW n a l bs bel false (wTo n a l bs bel false m k) k = putM (wTo n a l bs bel false m k) k (ldTo n k a (clusM n (wTo n a l bs bel false m k) k bel) bs n) := by
         unfold stepW
         rw [if_neg (by omega), if_neg (fun q => absurd q.1 (by decide)), if_neg (fun q => absurd q.1 (by decide))]
       rw [e]
       have hck : k < (iwrK s a l bs y (k - 16 * a / wid s)).t.length := by rw [htl2]; exact hk1
       have hsame := (hI.far k (.inr (by omega))).1
       have hcb := clus_bel hr hck (bel := bel) (y := y k) fun q => hy k hk1 (by rw [h.kd k hk1, ← getD_far hsame, ← hr.kd k hck]; exact q)
       have hcl := clusM_len hr.ok (c := k) (by rw [hr.len]; exact hck) bel
       rw [p1] at hput
       have hp1 : (pce (wid s) a l (k - 16 * a / wid s)).c = k := p1
       have hpl : (laid (clus (iwrK s a l bs y (k - 16 * a / wid s)) k (some (y k))) (pce (wid s) a l (k - 16 * a / wid s)).a ((pce (wid s) a l (k - 16 * a / wid s)).b - (pce (wid s) a l (k - 16 * a / wid s)).a) (bsP bs (pce (wid s) a l (k - 16 * a / wid s)))).length = 16 * n := by
         obtain ⟨w1, w2, w3, w4⟩ := pce_ok (wid_isW h.im.bits) a3
         rw [laid_len (by rw [hcb, hcl]; have := h.wd; omega) (bsP_len w1 (by omega)), hcb, hcl]
       have hx := h.lay hbl (X := clus (iwrK s a l bs y (k - 16 * a / wid s)) k (some (y k))) (by rw [hcb]; exact hcl) ⟨p3, p4⟩ hpl
       rw [hcb] at hx
       have hpp := hr.put (x := ldTo n k a (clusM n (wTo n a l bs bel false m k) k bel) bs n) hput (by rw [hp1]; exact hck) (by rw [hp1, hcb]; exact hx) (ldTo_len n (Nat.le_of_eq hcl.symm)) (by
         have := wTo_dl n a l bs bel false m k
         omega)
       rw [hp1] at hpp
       exact hpp
     · rw [ahd_out (fun q => g (q1.2 q))]
       have e : stepW n a l bs bel false (wTo n a l bs bel false m k) k = wTo n a l bs bel false m k := if_pos (by omega)
       rw [e]
       exact hr
 have := key _ (Nat.le_refl _)
 rw [ahd_all (h.fits hall), ← h.len] at this
 exact this
/-! ### Discard -/
theorem RI.ds (h : RI n s m) {a l : Nat} (hall : a + l ≤ iall s) : RI n (idsS s a l) (dcTo n a l m (mC m).length) := by
 have htl := h.im.tl
 have n1 := h.ok.n1
 have key : ∀ k, k ≤ s.t.length → RI n (idsK s a l (ahd (16 * a / wid s) (pcN (wid s) a l) k)) (dcTo n a l m k) := fun k => by
   induction k with
   | zero => intro _; unfold ahd; simp only [Nat.zero_sub, Nat.zero_min]; exact h
   | succ k ih =>
     intro hk
     have hk1 : k < s.t.length := hk
     have hr := ih (by omega)
     obtain ⟨q1, q2⟩ := h.piece (a := a) (l := l) (c := k)
     by_cases g : 0 < insTo n k a l n
     · obtain ⟨g1, g2⟩ := q1.1 g
       obtain ⟨a1, a2, a3⟩ := ahd_in g1 g2
       obtain ⟨p1, p2, _⟩ := q2 g1 g2
       rw [a1] at hr
       rw [a2, idsK, dcTo, p2, p1, h.wd]
       have hI := dsI h.im hall (k - 16 * a / wid s) (by omega)
       by_cases e : insTo n k a l n = n
       · rw [if_pos (by rw [e]), if_pos e]
         have hck : k < (idsK s a l (k - 16 * a / wid s)).t.length := by rw [hI.like.tl]; exact hk1
         have := hr.set (iset_law hr.im hck (q := s0) (.inl rfl)) hck (.inl rfl)
         rw [h.wd] at this
         exact this
       · rw [if_neg (by omega), if_neg e]
         rw [h.wd] at hr
         exact hr
     · rw [ahd_out (fun q => g (q1.2 q)), dcTo, if_neg (by omega)]
       exact hr
 have := key _ (Nat.le_refl _)
 rw [ahd_all (h.fits hall), ← h.len] at this
 exact this
/-! ### Zero -/
theorem RI.zneed (h : RI n s m) {a l : Nat} (hall : a + l ≤ iall s) : needTo n a l true m (mC m).length = zdK s a l (pcN (wid s) a l) := by
 have key : ∀ k, k ≤ s.t.length → needTo n a l true m k = zdK s a l (ahd (16 * a / wid s) (pcN (wid s) a l) k) := fun k => by
   induction k with
   | zero => intro _; unfold ahd; simp [needTo, zdK]
   | succ k ih =>
     intro hk
     have hk1 : k < s.t.length := hk
     obtain ⟨q1, q2⟩ := h.piece (a := a) (l := l) (c := k)
     rw [needTo, ih (by omega)]
     by_cases g : 0 < insTo n k a l n
     · obtain ⟨g1, g2⟩ := q1.1 g
       obtain ⟨a1, a2, a3⟩ := ahd_in g1 g2
       obtain ⟨p1, p2, _⟩ := q2 g1 g2
       rw [a1, a2, zdK]
       have hw : zNeeds s (pce (wid s) a l (k - 16 * a / wid s)) = qwants n a l true m k := by
         unfold zNeeds isWhole qwants
         rw [p1, p2, h.needs hk1, h.own hk1, ← h.kd k hk1, h.wd, decide_eq_true g]
         have ew : decide (16 * insTo n k a l n = 16 * n) = decide (insTo n k a l n = n) := by
           rw [Bool.eq_iff_iff, decide_eq_true_iff, decide_eq_true_iff]; omega
         rw [ew]
         by_cases e1 : insTo n k a l n = n <;> by_cases e2 : kdM m k = 2 <;> by_cases e3 : kdM m k = 1 <;> simp [e1, e2, e3]
       rw [← hw]
       cases zNeeds s (pce (wid s) a l (k - 16 * a / wid s)) <;> rfl
     · rw [ahd_out (fun q => g (q1.2 q))]
       have hw : qwants n a l true m k = false := by unfold qwants; rw [decide_eq_false g]; rfl
       rw [hw]
 rw [h.len, key _ (Nat.le_refl _), ahd_all (h.fits hall)]
theorem bsP_zero {W a l k : Nat} (hW : isW W) (hk : k < pcN W a l) : bsP (List.replicate (16 * l) 0) (pce W a l k) = zerB ((pce W a l k).b - (pce W a l k).a) := by
 obtain ⟨w1, w2, w3, w4⟩ := pce_ok hW hk
 unfold bsP zerB
 rw [List.take_replicate, List.drop_replicate]
 congr 1
 omega
theorem RI.zr (h : RI n s m) {a l : Nat} (hall : a + l ≤ iall s) {y : Nat → List UInt8} {bel : List (List UInt8)} (hy : ∀ c, c < s.t.length → kdM m c = 0 → bel[c]? = some (y c) ∧ (y c).length = 16 * n) (hd : (mD m).length + 256 ≤ 100000)
   (hnd : zdK s a l (pcN (wid s) a l) ≤ zeros s.l) : RI n (izrK s a l y (pcN (wid s) a l)) (wTo n a l (List.replicate (16 * l) 0) bel true m (mC m).length) := by
 have htl := h.im.tl
 have n1 := h.ok.n1
 have hbl : (List.replicate (16 * l) (0 : UInt8)).length = 16 * l := List.length_replicate
 have key : ∀ k, k ≤ s.t.length → RI n (izrK s a l y (ahd (16 * a / wid s) (pcN (wid s) a l) k)) (wTo n a l (List.replicate (16 * l) 0) bel true m k) := fun k => by
   induction k with
   | zero => intro _; unfold ahd; simp only [Nat.zero_sub, Nat.zero_min]; exact h
   | succ k ih =>
     intro hk
     have hk1 : k < s.t.length := hk
     have hr := ih (by omega)
     obtain ⟨q1, q2⟩ := h.piece (a := a) (l := l) (c := k)
     have hdk := wTo_dl n a l (List.replicate (16 * l) 0) bel true m k
     rw [wTo]
     generalize wTo n a l (List.replicate (16 * l) 0) bel true m k = X at *
     by_cases g : 0 < insTo n k a l n
     · obtain ⟨g1, g2⟩ := q1.1 g
       obtain ⟨a1, a2, a3⟩ := ahd_in g1 g2
       obtain ⟨p1, p2, p3, p4⟩ := q2 g1 g2
       rw [a1] at hr
       rw [a2, izrK]
       have hI := zrI h.im hall y hnd (k - 16 * a / wid s) (by omega)
       have hck : k < (izrK s a l y (k - 16 * a / wid s)).t.length := by rw [hI.like.tl]; exact hk1
       have hwl : wid (izrK s a l y (k - 16 * a / wid s)) = wid s := hI.like.wid
       have hz := fun hw h2 => zrHz hnd hI a3 hw h2
       unfold zpS stepW
       rw [whole_like hI.like]
       have ew : isWhole s (pce (wid s) a l (k - 16 * a / wid s)) = decide (insTo n k a l n = n) := by
         unfold isWhole
         rw [p2, h.wd, Bool.eq_iff_iff, decide_eq_true_iff, decide_eq_true_iff]
         omega
       rw [ew] at hz ⊢
       rw [if_neg (show ¬ insTo n k a l n = 0 by omega)]
       have hle := insTo_le n k a l n
       by_cases e1 : insTo n k a l n = n
       · rw [if_pos (decide_eq_true e1), if_neg (by omega), if_pos ⟨rfl, e1⟩, p1]
         exact hr.set (iset_law hr.im hck (q := sZr) (.inr rfl)) hck (.inr rfl)
       · rw [if_neg (by rw [decide_eq_false e1]; decide), if_neg (show ¬ (true = true ∧ insTo n k a l n = n) from fun q => e1 q.2), p1]
         have hkd := hr.kd k hck
         by_cases e2 : kdM X k = 2
         · rw [if_pos (hkd.symm.trans e2), if_pos ⟨rfl, by omega, e2⟩]
           exact hr
         · rw [if_neg (fun q => e2 (hkd.trans q)), if_neg (fun q => e2 q.2.2)]
           obtain ⟨w1, w2, w3, w4⟩ := pce_ok (wid_isW h.im.bits) a3
           have hsame := (hI.far k (.inr (by omega))).1
           have hcb := clus_bel hr hck (bel := bel) (y := y k) fun q => hy k hk1 (by rw [h.kd k hk1, ← getD_far hsame, ← hr.kd k hck]; exact q)
           have hcl := clusM_len hr.ok (c := k) (by rw [hr.len]; exact hck) bel
           have hbz := bsP_zero (wid_isW h.im.bits) a3
           rw [← hbz]
           have hzz := hz (decide_eq_false e1) (by rw [p1]; exact fun q => e2 (hkd.trans q))
           have hput := iput_law hr.im (p := pce (wid s) a l (k - 16 * a / wid s)) (by rw [p1]; exact hck) (bs := bsP (List.replicate (16 * l) 0) (pce (wid s) a l (k - 16 * a / wid s))) (y := y k) w1 (by rw [hwl]; exact w2) (bsP_len w1 (by omega)) hzz
           have hpl : (laid (clus (izrK s a l y (k - 16 * a / wid s)) k (some (y k))) (pce (wid s) a l (k - 16 * a / wid s)).a ((pce (wid s) a l (k - 16 * a / wid s)).b - (pce (wid s) a l (k - 16 * a / wid s)).a) (bsP (List.replicate (16 * l) 0) (pce (wid s) a l (k - 16 * a / wid s)))).length = 16 * n := by
             rw [laid_len (by rw [hcb, hcl]; have := h.wd; omega) (bsP_len w1 (by omega)), hcb, hcl]
           have hx := h.lay hbl (X := clus (izrK s a l y (k - 16 * a / wid s)) k (some (y k))) (by rw [hcb]; exact hcl) ⟨p3, p4⟩ hpl
           rw [hcb] at hx
           have hpp := hr.put (x := ldTo n k a (clusM n X k bel) (List.replicate (16 * l) 0) n) hput (by rw [p1]; exact hck) (by rw [p1, hcb]; exact hx) (ldTo_len n (Nat.le_of_eq hcl.symm)) (by omega)
           rw [p1] at hpp
           exact hpp
     · rw [ahd_out (fun q => g (q1.2 q))]
       have e : stepW n a l (List.replicate (16 * l) 0) bel true X k = X := if_pos (by omega)
       rw [e]
       exact hr
 have := key _ (Nat.le_refl _)
 rw [ahd_all (h.fits hall), ← h.len] at this
 exact this
end
end Go.Proofs.YteoamepgonpdlaaGreat
/-!
  The document's chain (layer 14): its values; Find, Depth, put, Users, Names, With.
-/
namespace Go.Proofs.YteoamepgonpdlaaGreat
set_option linter.unusedVariables false
set_option linter.unusedSimpArgs false
set_option maxRecDepth 10000
open Go.RowKit Go.Proofs
@[reducible] def uDk : U := .pr .str (.pr .str uIm)
abbrev Rdk := El uDk
@[reducible] def dN (d : Rdk) : List UInt8 := d.1
@[reducible] def dB (d : Rdk) : List UInt8 := d.2.1
@[reducible] def dIm (d : Rdk) : Rim := d.2.2
@[reducible] def mkDk (n b : List UInt8) (m : Rim) : Rdk := (n, b, m)
@[reducible] def dkL (d : Rdk) : List S1 := .d (.str (dN d)) :: .d (.str (dB d)) :: imL (dIm d)
@[reducible] def dkV (d : Rdk) : SV := .c (.agg (dkL d))
@[reducible] def rcL (bits room : Int) (l : List Rdk) : List S1 := [.d (.int .i64 bits), .d (.int .i64 room), .d (.lst uDk l)]
@[reducible] def rcV (bits room : Int) (l : List Rdk) : SV := .c (.agg (rcL bits room l))
/-! ### Find -/
def fdR (l : List Rdk) (n : List UInt8) : Option Nat := l.findIdx? fun p => decide (dN p = n)
def fdI (l : List Rdk) (n : List UInt8) : Int := match fdR l n with
 | some i => (i : Nat)
 | none => -1
def gtR : List Rdk → List UInt8 → Option Rdk
 | [], _ => none
 | p :: l, n => if dN p = n then some p else gtR l n
theorem fdR_cases (l : List Rdk) (n : List UInt8) : (fdR l n = none ∧ gtR l n = none) ∨ ∃ (i : Nat) (hi : i < l.length), fdR l n = some i ∧ gtR l n = some l[i] ∧ dN l[i] = n := by
 induction l with
 | nil => exact .inl ⟨rfl, rfl⟩
 | cons p l ih =>
   unfold fdR at ih ⊢
   rw [List.findIdx?_cons]
   by_cases h : dN p = n
   · rw [decide_eq_true h]
     exact .inr ⟨0, Nat.zero_lt_succ _, rfl, (by rw [gtR, if_pos h]; rfl), h⟩
   · rw [decide_eq_false h, gtR, if_neg h]
     rcases ih with ⟨e1, e2⟩ | ⟨i, hi, e1, e2, e3⟩
     · rw [e1]; exact .inl ⟨rfl, e2⟩
     · rw [e1]; exact .inr ⟨i + 1, Nat.succ_lt_succ hi, rfl, e2, e3⟩
theorem fdI_neg {l : List Rdk} {n : List UInt8} (h : fdI l n < 0) : gtR l n = none := by
 unfold fdI at h
 rcases fdR_cases l n with ⟨_, e2⟩ | ⟨i, hi, e1, _⟩
 · exact e2
 · rw [e1] at h; simp only at h; omega
theorem fdI_pos {l : List Rdk} {n : List UInt8} (h : ¬ fdI l n < 0) : ∃ (i : Nat) (hi : i < l.length), fdI l n = (i : Nat) ∧ gtR l n = some l[i] ∧ dN l[i] = n := by
 unfold fdI at h ⊢
 rcases fdR_cases l n with ⟨e1, e2⟩ | ⟨i, hi, e1, e2, e3⟩
 · rw [e1] at h; simp only at h; omega
 · exact ⟨i, hi, (by rw [e1]), e2, e3⟩
theorem fdI_none {l : List Rdk} {n : List UInt8} (h : gtR l n = none) : fdI l n = -1 := by
 unfold fdI
 rcases fdR_cases l n with ⟨e1, e2⟩ | ⟨i, hi, e1, e2, e3⟩
 · rw [e1]
 · rw [h] at e2; cases e2
theorem fdI_some {l : List Rdk} {n : List UInt8} {d : Rdk} (h : gtR l n = some d) : ∃ (i : Nat) (hi : i < l.length), fdI l n = (i : Nat) ∧ l[i] = d ∧ dN d = n := by
 unfold fdI
 rcases fdR_cases l n with ⟨e1, e2⟩ | ⟨i, hi, e1, e2, e3⟩
 · rw [h] at e2; cases e2
 · rw [h] at e2
   injection e2 with e2
   exact ⟨i, hi, (by rw [e1]), e2.symm, e2 ▸ e3⟩
@[reducible] def ndK14 (n : List UInt8) (k : Nat) : KL := [(1, vS n), (2, vP 2), (5, vI (k : Nat))]
theorem cfind_fn (bits room : Int) (l : List Rdk) (n : List UInt8) (hl : l.length ≤ 1073741824) : Fn Tryz.prog 55 [rcV bits room l, vS n] [] [] (vI (fdI l n)) [] := by
 refine Fn.of tblOK [] _ _ _ _ _ Tryz.func55 rfl rfl (by kernel_rfl) (by kernel_rfl) rfl (drawOK tblOK) rfl ?_
 refine ⟨rfl, ?_⟩
 show TrQ _ _ _ _ _ _ _
 refine TrQ.loop tblOK (drawOK tblOK) [] (by kernel_rfl) (X := Nat) (ndK14 n) (fun _ => [(2, .cells (rcL bits room l))]) (fun k => k ≤ l.length ∧ ∀ (i : Nat) x, i < k → l[i]? = some x → dN x ≠ n) (fun k => l.length - k) 0 ⟨Nat.zero_le _, fun i x h => absurd h (Nat.not_lt_zero _)⟩ ?_ ?_
 · exact Le.sub ⟨rfl, rfl, rfl, trivial⟩ ⟨rfl, trivial⟩
 rintro k ⟨hk, hp⟩
 refine ⟨fun h => ?_, fun h => ?_⟩
 · have hk1 : k < l.length := by
     have h : decide ((k : Int) < (l.length : Int)) = true := h
     simpa using h
   refine ⟨by omega, l[k], lgAt (n := k) hk1, ?_⟩
   refine ⟨fun h2 => ?_, fun h2 => ?_⟩
   · have h2 : dN l[k] = n := of_decide_eq_true h2
     refine ⟨_, _, _, Le.refl _ _, rfl, (show ((k : Nat) : Int) = fdI l n from ?_), trivial, rfl⟩
     have : fdR l n = some k := by
       rw [fdR, List.findIdx?_eq_some_iff_getElem]
       refine ⟨hk1, by simp [h2], fun j hj => ?_⟩
       have := hp j _ hj (List.getElem?_eq_getElem (by omega))
       simpa using this
     rw [fdI, this]
   · have h2 : dN l[k] ≠ n := of_decide_eq_false h2
     refine ⟨by omega, k + 1, ⟨by omega, fun i x hi hx => ?_⟩, by omega, Le.sub ⟨rfl, rfl, rfl, trivial⟩ ⟨rfl, trivial⟩⟩
     rcases Nat.lt_or_ge i k with h4 | h4
     · exact hp i x h4 hx
     · have : i = k := by omega
       subst this
       rw [List.getElem?_eq_getElem hk1] at hx
       injection hx with hx
       rw [← hx]; exact h2
 · have hk2 : k = l.length := by
     have h : decide ((k : Int) < (l.length : Int)) = false := h
     simp at h; omega
   refine ⟨_, _, _, Le.refl _ _, rfl, (show (-1 : Int) = fdI l n from ?_), trivial, rfl⟩
   have : fdR l n = none := by
     rw [fdR, List.findIdx?_eq_none_iff]
     intro x hx
     obtain ⟨i, hi, rfl⟩ := List.getElem_of_mem hx
     have := hp i _ (by omega) (List.getElem?_eq_getElem hi)
     simpa using this
   rw [fdI, this]
/-! ### Depth -/
/-- Does one stand on another one? The name of that. -/
def onR (l : List Rdk) (n : List UInt8) : Option (List UInt8) := match gtR l n with
 | some d => if dB d = [] then none else some (dB d)
 | none => none
def qdpF (l : List Rdk) : Nat → List UInt8 → Nat
 | 0, _ => 0
 | f + 1, n => match onR l n with
   | some b => qdpF l f b + 1
   | none => 0
def dqR (l : List Rdk) (n : List UInt8) : Nat := qdpF l 99 n
@[reducible] def dpK (l : List Rdk) (j : Nat) (n : List UInt8) : KL := [(2, vP 2), (5, vI (j : Nat)), (6, vI (fdI l n))]
theorem cdepth_fn (bits room : Int) (l : List Rdk) (n : List UInt8) (hl : l.length ≤ 1073741824) : Fn Tryz.prog 67 [rcV bits room l, vS n] [] [] (vI (dqR l n : Nat)) [] := by
 refine Fn.of tblOK [] _ _ _ _ _ Tryz.func67 rfl rfl (by kernel_rfl) (by kernel_rfl) rfl (drawOK tblOK) rfl ?_
 refine ⟨rfl, ?_⟩
 refine ⟨_, _, _, _, cfind_fn bits room l n hl, trivial, rfl, ?_⟩
 show TrQ _ _ _ _ _ _ _
 refine TrQ.loop tblOK (drawOK tblOK) [] (by kernel_rfl) (X := Nat × List UInt8) (fun x => dpK l x.1 x.2) (fun _ => [(2, .cells (rcL bits room l))]) (fun x => x.1 ≤ 99 ∧ x.1 + qdpF l (99 - x.1) x.2 = dqR l n) (fun x => 99 - x.1) (0, n) ⟨Nat.zero_le _, Nat.zero_add _⟩ ?_ ?_
 · exact Le.sub ⟨rfl, rfl, rfl, trivial⟩ ⟨rfl, trivial⟩
 rintro ⟨j, nm⟩ ⟨hj, he⟩
 have hj : j ≤ 99 := hj
 have he : j + qdpF l (99 - j) nm = dqR l n := he
 have stop : (j = 99 ∨ onR l nm = none) → ((j : Nat) : Int) = ((dqR l n : Nat) : Int) := fun h => by
   have : qdpF l (99 - j) nm = 0 := by
     rcases h with h | h
     · rw [h]; rfl
     · cases e : 99 - j with
       | zero => rfl
       | succ f => rw [qdpF, h]
   omega
 refine ⟨fun h1 => ?_, fun h1 => ?_⟩
 · have h1 : 0 ≤ fdI l nm := of_decide_eq_true h1
   obtain ⟨i, hi, e1, e2, e3⟩ := fdI_pos (l := l) (n := nm) (by omega)
   refine ⟨by omega, l[i], (by rw [show (fdI l nm).toNat = i by omega]; exact lgAt (n := i) hi), ?_⟩
   refine ⟨fun h2 => ?_, fun h2 => ?_⟩
   · have h2 : (!decide (dB l[i] = [])) = true := h2
     have h2 : ¬ dB l[i] = [] := by simpa using h2
     have ho : onR l nm = some (dB l[i]) := by unfold onR; rw [e2]; exact if_neg h2
     refine ⟨fun h3 => ?_, fun h3 => ?_⟩
     · have h3 : ((j : Nat) : Int) < 99 := of_decide_eq_true h3
       refine ⟨by omega, ?_⟩
       refine ⟨by omega, l[i], (by rw [show (fdI l nm).toNat = i by omega]; exact lgAt (n := i) hi), ?_⟩
       refine ⟨_, _, _, _, cfind_fn bits room l (dB l[i]) hl, trivial, rfl, ?_⟩
       have hf : 99 - j = (99 - (j + 1)) + 1 := by omega
       rw [hf, qdpF, ho] at he
       have he : j + (qdpF l (99 - (j + 1)) (dB l[i]) + 1) = dqR l n := he
       refine ⟨rfl, ?_⟩
       exact ⟨(j + 1, dB l[i]), ⟨by show j + 1 ≤ 99; omega, by show j + 1 + qdpF l (99 - (j + 1)) (dB l[i]) = dqR l n; omega⟩, by show 99 - (j + 1) < 99 - j; omega, Le.sub ⟨rfl, rfl, rfl, trivial⟩ ⟨rfl, trivial⟩⟩
     · have h3 : ¬ ((j : Nat) : Int) < 99 := of_decide_eq_false h3
       exact ⟨_, _, _, Le.refl _ _, rfl, stop (.inl (by omega)), trivial, rfl⟩
   · have h2 : (!decide (dB l[i] = [])) = false := h2
     have h2 : dB l[i] = [] := by simpa using h2
     have ho : onR l nm = none := by unfold onR; rw [e2]; exact if_pos h2
     exact ⟨_, _, _, Le.refl _ _, rfl, stop (.inr ho), trivial, rfl⟩
 · have h1 : ¬ 0 ≤ fdI l nm := of_decide_eq_false h1
   have e := fdI_neg (l := l) (n := nm) (by omega)
   have ho : onR l nm = none := by unfold onR; rw [e]
   exact ⟨_, _, _, Le.refl _ _, rfl, stop (.inr ho), trivial, rfl⟩
/-! ### Names, Users -/
def usR (l : List Rdk) (n : List UInt8) : List (List UInt8) := (l.filter fun d => !decide (n = []) && decide (dB d = n)).map dN
theorem usR_succ {l : List Rdk} {k : Nat} (h : k < l.length) (n : List UInt8) : usR (l.take (k + 1)) n = usR (l.take k) n ++ (match !decide (n = []) && decide (dB l[k] = n) with | true => [dN l[k]] | false => []) := by
 unfold usR
 rw [List.take_succ_eq_append_getElem h, List.filter_append, List.map_append]
 congr 1
 cases e : (!decide (n = []) && decide (dB l[k] = n)) with
 | true => rw [List.filter_cons_of_pos (by exact e)]; rfl
 | false => rw [List.filter_cons_of_neg (by rw [e]; decide)]; rfl
theorem usR_len (l : List Rdk) (n : List UInt8) : (usR l n).length ≤ l.length := by
 unfold usR
 rw [List.length_map]
 exact List.length_filter_le _ _
@[reducible] def qusK (n : List UInt8) (d k : Nat) : KL := [(1, vS n), (2, vP 2), (5, vOwn d), (6, vI (k : Nat))]
@[reducible] def qusB (bits room : Int) (l : List Rdk) (d : Nat) (x : List (List UInt8)) : BL := [(2, .cells (rcL bits room l)), (d, .row 9 .str x)]
theorem cusers_fn (bits room : Int) (l : List Rdk) (n : List UInt8) (hl : l.length ≤ 1073741824) : Fn Tryz.prog 56 [rcV bits room l, vS n] [] [] (vL .str (usR l n)) [] := by
 refine Fn.of tblOK [7] _ _ _ _ _ Tryz.func56 rfl rfl (by kernel_rfl) (by kernel_rfl) rfl (drawOK tblOK) rfl ?_
 refine ⟨rfl, ?_⟩
 show TrQ _ _ _ _ _ _ _
 refine TrQ.loop tblOK (drawOK tblOK) [7] (by kernel_rfl) (X := Nat) (fun k => qusK n 2003 k) (fun k => qusB bits room l 2003 (usR (l.take k) n)) (fun k => k ≤ l.length) (fun k => l.length - k) 0 (Nat.zero_le _) ?_ ?_
 · exact Le.trans (Le.nil 5 2003 9 .str rfl rfl) (Le.sub ⟨rfl, rfl, rfl, rfl, trivial⟩ ⟨rfl, rfl, trivial⟩)
 intro k hk
 refine ⟨fun h => ?_, fun h => ?_⟩
 · have h : decide ((k : Int) < (l.length : Int)) = true := h
   have hk1 : k < l.length := by simpa using h
   have hcl : (usR (l.take k) n).length ≤ k := Nat.le_trans (usR_len _ _) (by rw [List.length_take]; omega)
   have hsn := usR_succ hk1 n
   refine ⟨fun c1 => ?_, fun c1 => ?_⟩
   · have c1 : (!decide (n = [])) = true := c1
     refine ⟨by omega, l[k], lgAt (n := k) hk1, ?_⟩
     refine ⟨fun c2 => ?_, fun c2 => ?_⟩
     · have c2 : decide (dB l[k] = n) = true := c2
       rw [c1, c2] at hsn
       refine ⟨by omega, l[k], lgAt (n := k) hk1, ?_⟩
       have hb : (usR (l.take k) n).length + 1 ≤ 4294967296 := by omega
       refine ⟨hb, rfl, ?_⟩
       refine ⟨by omega, k + 1, by omega, by omega, Le.trans (Le.sub (K' := qusK n 34 (k + 1)) (B' := qusB bits room l 34 (usR (l.take (k + 1)) n)) ⟨rfl, rfl, rfl, rfl, trivial⟩ ⟨rfl, ?_, trivial⟩) (Le.ren 34 2003 rfl)⟩
       rw [hsn]
       rfl
     · have c2 : decide (dB l[k] = n) = false := c2
       rw [c2, Bool.and_false, List.append_nil] at hsn
       refine ⟨by omega, k + 1, by omega, by omega, Le.sub ⟨rfl, rfl, rfl, rfl, trivial⟩ ⟨rfl, ?_, trivial⟩⟩
       rw [hsn]
       rfl
   · have c1 : (!decide (n = [])) = false := c1
     rw [c1, Bool.false_and, List.append_nil] at hsn
     refine ⟨by omega, k + 1, by omega, by omega, Le.sub ⟨rfl, rfl, rfl, rfl, trivial⟩ ⟨rfl, ?_, trivial⟩⟩
     rw [hsn]
     rfl
 · have h : decide ((k : Int) < (l.length : Int)) = false := h
   have hk1 : k = l.length := by simp at h; omega
   subst hk1
   show TrQ _ _ _ _ _ _ _
   refine TrQ.go tblOK (drawOK tblOK) [] (by kernel_rfl) (Le.trans (Le.sub (K' := qusK n 2003 l.length) (B' := qusB bits room l 2003 (usR l n)) ⟨rfl, rfl, rfl, rfl, trivial⟩ ⟨rfl, congrArg (fun m => some (Ch.row 9 .str (usR m n))) List.take_length, trivial⟩) (Le.frz 2003 rfl)) ?_
   exact ⟨_, _, _, Le.refl _ _, rfl, rfl, trivial, rfl⟩
@[reducible] def qnmK (d k : Nat) : KL := [(1, vP 1), (3, vOwn d), (4, vI (k : Nat))]
@[reducible] def qnmB (bits room : Int) (l : List Rdk) (d : Nat) (x : List (List UInt8)) : BL := [(1, .cells (rcL bits room l)), (d, .row 9 .str x)]
theorem cnames_fn (bits room : Int) (l : List Rdk) (hl : l.length ≤ 1073741824) : Fn Tryz.prog 61 [rcV bits room l] [] [] (vL .str (l.map dN)) [] := by
 refine Fn.of tblOK [6] _ _ _ _ _ Tryz.func61 rfl rfl (by kernel_rfl) (by kernel_rfl) rfl (drawOK tblOK) rfl ?_
 refine ⟨rfl, ?_⟩
 show TrQ _ _ _ _ _ _ _
 refine TrQ.loop tblOK (drawOK tblOK) [6] (by kernel_rfl) (X := Nat) (fun k => qnmK 2003 k) (fun k => qnmB bits room l 2003 ((l.take k).map dN)) (fun k => k ≤ l.length) (fun k => l.length - k) 0 (Nat.zero_le _) ?_ ?_
 · exact Le.trans (Le.nil 3 2003 9 .str rfl rfl) (Le.sub ⟨rfl, rfl, rfl, trivial⟩ ⟨rfl, rfl, trivial⟩)
 intro k hk
 refine ⟨fun h => ?_, fun h => ?_⟩
 · have h : decide ((k : Int) < (l.length : Int)) = true := h
   have hk1 : k < l.length := by simpa using h
   refine ⟨by omega, l[k], lgAt (n := k) hk1, ?_⟩
   have hb : ((l.take k).map dN).length + 1 ≤ 4294967296 := by rw [List.length_map, List.length_take]; omega
   refine ⟨hb, rfl, ?_⟩
   refine ⟨by omega, k + 1, by omega, by omega, Le.trans (Le.sub (K' := qnmK 20 (k + 1)) (B' := qnmB bits room l 20 ((l.take (k + 1)).map dN)) ⟨rfl, rfl, rfl, trivial⟩ ⟨rfl, ?_, trivial⟩) (Le.ren 20 2003 rfl)⟩
   rw [List.take_succ_eq_append_getElem hk1, List.map_append]
   rfl
 · have h : decide ((k : Int) < (l.length : Int)) = false := h
   have hk1 : k = l.length := by simp at h; omega
   subst hk1
   show TrQ _ _ _ _ _ _ _
   refine TrQ.go tblOK (drawOK tblOK) [] (by kernel_rfl) (Le.trans (Le.sub (K' := qnmK 2003 l.length) (B' := qnmB bits room l 2003 (l.map dN)) ⟨rfl, rfl, rfl, trivial⟩ ⟨rfl, congrArg (fun m => some (Ch.row 9 .str (List.map dN m))) List.take_length, trivial⟩) (Le.frz 2003 rfl)) ?_
   exact ⟨_, _, _, Le.refl _ _, rfl, rfl, trivial, rfl⟩
/-! ### With, put -/
theorem infDk : (Tryz.prog.info? 124).map (·.size) = some 7 := by kernel_rfl
theorem wfDk (d : Rdk) : WfU uDk d := ⟨trivial, trivial, trivial, trivial, trivial, trivial, trivial⟩
theorem cwith_fn (bits room : Int) (l : List Rdk) {k : Nat} (hl : l.length ≤ 1073741824) (hk : k < l.length) (d : Rdk) : Fn Tryz.prog 96 [rcV bits room l, vI (k : Int), dkV d] [] [] (rcV bits room (l.set k d)) [] := by
 refine Fn.of tblOK [3] _ _ _ _ _ Tryz.func96 rfl rfl (by kernel_rfl) (by kernel_rfl) rfl (drawOK tblOK) rfl ?_
 refine ⟨rfl, ?_⟩
 refine ⟨rfl, ?_⟩
 refine ⟨rfl, ?_⟩
 have h1 : (0 : Nat) + l.length ≤ 4294967296 := by omega
 refine ⟨rfl, h1, rfl, ?_⟩
 have h2 : 0 ≤ (k : Int) ∧ (k : Int) < ((l.length : Nat) : Int) := by omega
 refine ⟨h2, ?_⟩
 obtain ⟨inf, hi1, hi2⟩ := inf_of infDk
 refine ⟨_, _, fun N => opOK_rowPut (u := uDk) (y := d) rfl hi1 hi2 rfl rfl rfl (by show k < l.length; exact hk) (wfDk d) N, rfl, ?_⟩
 show TrQ _ _ _ _ _ _ _
 refine TrQ.go tblOK (drawOK tblOK) [] (by kernel_rfl) (Le.frz 11 rfl) ?_
 exact ⟨_, _, _, Le.refl _ _, rfl, ⟨rfl, rfl, rfl, trivial⟩, trivial, rfl⟩
/-- Disks by rising names, with one more: what is out behind k of them, and is it done? -/
def ptS (l : List Rdk) (d : Rdk) : Nat → List Rdk × Bool
 | 0 => ([], false)
 | k + 1 => match l[k]? with
   | none => ptS l d k
   | some x => if (ptS l d k).2 = false ∧ dN d < dN x then ((ptS l d k).1 ++ [d] ++ [x], true) else ((ptS l d k).1 ++ [x], (ptS l d k).2)
def ptR (l : List Rdk) (d : Rdk) : List Rdk := if (ptS l d l.length).2 = true then (ptS l d l.length).1 else (ptS l d l.length).1 ++ [d]
theorem ptS_len (l : List Rdk) (d : Rdk) : ∀ k, (ptS l d k).1.length + (match (ptS l d k).2 with | true => 0 | false => 1) ≤ k + 1
 | 0 => Nat.le_refl _
 | k + 1 => by
   have ih := ptS_len l d k
   unfold ptS
   split
   · exact Nat.le_succ_of_le ih
   · split
     · rename_i h
       rw [h.1] at ih
       simp only [List.length_append, List.length_cons, List.length_nil] at ih ⊢
       omega
     · simp only [List.length_append, List.length_cons, List.length_nil]
       split <;> rename_i e <;> rw [e] at ih <;> simp only at ih <;> omega
@[reducible] def qptK (l : List Rdk) (o : Nat) (dn : Bool) (k : Nat) : KL := [(0, vL uDk l), (3, vP 3), (5, vOwn o), (6, vB dn), (7, vI (k : Nat))]
@[reducible] def qptB (d : Rdk) (o : Nat) (x : List Rdk) : BL := [(3, .cells (dkL d)), (o, .row 124 uDk x)]
set_option maxHeartbeats 1000000 in
theorem cput_fn (l : List Rdk) (d : Rdk) (hl : l.length ≤ 1073741824) : Fn Tryz.prog 95 [vL uDk l, dkV d] [] [] (vL uDk (ptR l d)) [] := by
 refine Fn.of tblOK [10,12] _ _ _ _ _ Tryz.func95 rfl rfl (by kernel_rfl) (by kernel_rfl) rfl (drawOK tblOK) rfl ?_
 refine ⟨rfl, ?_⟩
 show TrQ _ _ _ _ _ _ _
 refine TrQ.loop tblOK (drawOK tblOK) [10, 12] (by kernel_rfl) (X := Nat) (fun k => qptK l 2003 (ptS l d k).2 k) (fun k => qptB d 2003 (ptS l d k).1) (fun k => k ≤ l.length) (fun k => l.length - k) 0 (Nat.zero_le _) ?_ ?_
 · exact Le.trans (Le.nil 5 2003 124 uDk rfl rfl) (Le.sub ⟨rfl, rfl, rfl, rfl, rfl, trivial⟩ ⟨rfl, rfl, trivial⟩)
 intro k hk
 have hln := ptS_len l d k
 have hl2 : (ptS l d k).1.length ≤ k + 1 := by omega
 refine ⟨fun h => ?_, fun h => ?_⟩
 · have h : decide ((k : Int) < (l.length : Int)) = true := h
   have hk1 : k < l.length := by simpa using h
   have e : ptS l d (k + 1) = if (ptS l d k).2 = false ∧ dN d < dN l[k] then ((ptS l d k).1 ++ [d] ++ [l[k]], true) else ((ptS l d k).1 ++ [l[k]], (ptS l d k).2) := by
     rw [ptS, List.getElem?_eq_getElem hk1]
   have hget := lgAt (n := k) hk1
   generalize hx : l[k] = x at *
   refine ⟨fun c1 => ?_, fun c1 => ?_⟩
   · have c1 : (!(ptS l d k).2) = true := c1
     have c1 : (ptS l d k).2 = false := by simpa using c1
     refine ⟨by omega, x, hget, ?_⟩
     refine ⟨rfl, fun c2 => ?_, fun c2 => ?_⟩
     · have c2 : Op.bytesLess (dN d) (dN x) = true := c2
       rw [Go.Proofs.bytesLess_eq] at c2
       have c2 := of_decide_eq_true c2
       rw [if_pos ⟨c1, c2⟩] at e
       have b1 : (ptS l d k).1.length + 1 ≤ 4294967296 := by omega
       refine ⟨b1, rfl, ?_⟩
       refine ⟨by omega, x, hget, ?_⟩
       have b2 : ((ptS l d k).1 ++ [d]).length + 1 ≤ 4294967296 := by rw [List.length_append]; simp only [List.length_cons, List.length_nil]; omega
       refine ⟨b2, rfl, ?_⟩
       refine ⟨by omega, k + 1, by omega, by omega, Le.trans (Le.sub (K' := qptK l 36 (ptS l d (k + 1)).2 (k + 1)) (B' := qptB d 36 (ptS l d (k + 1)).1) ⟨rfl, rfl, rfl, ?_, rfl, trivial⟩ ⟨rfl, ?_, trivial⟩) (Le.ren 36 2003 rfl)⟩
       · rw [e]; rfl
       · rw [e]; rfl
     · have c2 : Op.bytesLess (dN d) (dN x) = false := c2
       rw [Go.Proofs.bytesLess_eq] at c2
       have c2 := of_decide_eq_false c2
       rw [if_neg (fun q => c2 q.2)] at e
       refine ⟨by omega, x, hget, ?_⟩
       have b1 : (ptS l d k).1.length + 1 ≤ 4294967296 := by omega
       refine ⟨b1, rfl, ?_⟩
       refine ⟨by omega, k + 1, by omega, by omega, Le.trans (Le.sub (K' := qptK l 36 (ptS l d (k + 1)).2 (k + 1)) (B' := qptB d 36 (ptS l d (k + 1)).1) ⟨rfl, rfl, rfl, ?_, rfl, trivial⟩ ⟨rfl, ?_, trivial⟩) (Le.ren 36 2003 rfl)⟩
       · rw [e]; rfl
       · rw [e]; rfl
   · have c1 : (!(ptS l d k).2) = false := c1
     have c1 : (ptS l d k).2 = true := by simpa using c1
     rw [if_neg (fun q => absurd (c1.symm.trans q.1) (by decide))] at e
     refine ⟨rfl, ?_⟩
     refine ⟨by omega, x, hget, ?_⟩
     have b1 : (ptS l d k).1.length + 1 ≤ 4294967296 := by omega
     refine ⟨b1, rfl, ?_⟩
     refine ⟨by omega, k + 1, by omega, by omega, Le.trans (Le.sub (K' := qptK l 36 (ptS l d (k + 1)).2 (k + 1)) (B' := qptB d 36 (ptS l d (k + 1)).1) ⟨rfl, rfl, rfl, ?_, rfl, trivial⟩ ⟨rfl, ?_, trivial⟩) (Le.ren 36 2003 rfl)⟩
     · rw [e]; rfl
     · rw [e]; rfl
 · have h : decide ((k : Int) < (l.length : Int)) = false := h
   have hk1 : k = l.length := by simp at h; omega
   subst hk1
   unfold ptR
   show TrQ _ _ _ _ _ _ _
   refine TrQ.go tblOK (drawOK tblOK) [12] (by kernel_rfl) (Le.refl _ _) ?_
   refine ⟨fun c1 => ?_, fun c1 => ?_⟩
   · have c1 : (!(ptS l d l.length).2) = true := c1
     have c1 : (ptS l d l.length).2 = false := by simpa using c1
     rw [if_neg (fun q => absurd (c1.symm.trans q) (by decide))]
     have b1 : (ptS l d l.length).1.length + 1 ≤ 4294967296 := by omega
     refine ⟨b1, rfl, ?_⟩
     show TrQ _ _ _ _ _ _ _
     refine TrQ.go tblOK (drawOK tblOK) [] (by kernel_rfl) (Le.frz 42 rfl) ?_
     exact ⟨_, _, _, Le.refl _ _, rfl, rfl, trivial, rfl⟩
   · have c1 : (!(ptS l d l.length).2) = false := c1
     have c1 : (ptS l d l.length).2 = true := by simpa using c1
     rw [if_pos c1]
     show TrQ _ _ _ _ _ _ _
     refine TrQ.go tblOK (drawOK tblOK) [] (by kernel_rfl) (Le.frz 2003 rfl) ?_
     exact ⟨_, _, _, Le.refl _ _, rfl, rfl, trivial, rfl⟩
end Go.Proofs.YteoamepgonpdlaaGreat
/-!
  Rows of extents: a field of one in a row of one's own is written; span: add, end, Of; chains: Row.
-/
namespace Go.Proofs.YteoamepgonpdlaaGreat
set_option linter.unusedVariables false
set_option linter.unusedSimpArgs false
set_option maxRecDepth 10000
open Go.RowKit Go.Proofs
section
variable {P : Program} {ids : List Nat} {K : KL} {B : BL}
/-- One cell of one of a row's things is written. -/
theorem opOK_rowSet {o : Oper} {T : TypeId} {x v : Operand} {c i off : Nat} {e : TypeId} {u : U} {xs : List (El u)} {y y' : El u} {dv : D} {inf : TypeInfo} (ho : o.op = .store T x v) (hi : P.info? T = some inf) (hz : inf.size = 1) (hx : opv K x = .c (.one (.rp c (sz u) i off)))
   (hv : opv K v = .c (.one (.d dv))) (hB : lookB B c = some (.row e u xs)) (hy : lget xs i = some y) (hoff : off < sz u) (hwf : WfU u y') (hc : ∀ j, j < sz u → cellU u y' j = if j = off then dv else cellU u y j)
   (h1 : ∀ {I : Nat → Prop} {w : World} {z : Value}, Den I w dv z → z.cells = List.toArray [z] ∧ z.oneCell' = true) (N : Nat) :
   OpOK P N ids o K B .undef ⟨[c], [], [(c, some (.row e u (xs.set i y')))]⟩ := by
 have m1 : x ∈ o.op.operands := by rw [ho]; simp [Op.operands]
 have m2 : v ∈ o.op.operands := by rw [ho]; simp [Op.operands]
 have hil : i < xs.length := lget_lt hy
 refine OpOK.turn hB fun K' B' g1 C ρ F a w hM hS hl' => ?_
 obtain ⟨hF, hblk, cs, hown, hrec⟩ := hM.holds c _ hl'
 have hxp := hS.rp ((g1 x m1).trans hx)
 have e2 : Den (Imm C B' F w) w dv (a.eval v) := hS.ev ((g1 v m2).trans hv)
 obtain ⟨d1, d2⟩ := h1 e2
 obtain ⟨hl1, hown⟩ := hown
 rcases hown with ⟨_, h0⟩ | ⟨g, cap, cur, hv', _, hg, hcap, hm, hsz, ht⟩
 · omega
 · have hbg : g = (ρ c).blk := hblk g (by rw [hv']; rfl)
   subst hbg
   have hmul : i * sz u + off < xs.length * sz u := by
     have := Nat.mul_le_mul_right (sz u) hil
     rw [Nat.succ_mul] at this
     omega
   have hmul2 : xs.length * sz u ≤ cap * sz u := Nat.mul_le_mul_right _ hcap
   have hgt : w.heap[(ρ c).blk]? = some (.cells (List.toArray cur.toList) e (0, 0)) := by simpa using hg
   have hfit : i * sz u + off + [a.eval v].length ≤ cur.toList.length := by simp; omega
   have hex := exec_store (P := P) (ev := a.eval) (w := w) ho hxp d1 hi hz hgt hfit (by simpa using d2)
   refine ⟨_, hex, setRow_fr ((hF _).2 (by rw [hv']; rfl)), fun I he => ?_⟩
   have hnew := setRow_heap w (ρ c).blk cur (List.take (i * sz u + off) cur.toList ++ [a.eval v] ++ List.drop (i * sz u + off + [a.eval v].length) cur.toList).toArray e (0, 0) hg
   have hset : (List.take (i * sz u + off) cur.toList ++ [a.eval v] ++ List.drop (i * sz u + off + [a.eval v].length) cur.toList) = cur.toList.set (i * sz u + off) (a.eval v) := by
     rw [List.set_eq_take_append_cons_drop, if_pos (by simp; omega)]
     simp
   rw [hset] at hnew
   refine ⟨hF, hblk, cs.set (i * sz u + off) (a.eval v), ⟨by simp [hl1], .inr ⟨(ρ c).blk, cap, _, by rw [hv']; simp, Nat.zero_le _, by rw [hset]; exact hnew, by simpa using hcap, hm, by simp [hsz], ?_⟩⟩, fun j z hz => ?_⟩
   · rw [← ht]
     simp [List.take_set]
   · by_cases hji : i = j
     · subst hji
       rw [List.getElem?_set_self hil] at hz
       injection hz with hz
       subst hz
       have hd := hrec i y hy
       refine DenU.mk u y' _ hwf fun q hq => ?_
       rw [hc q hq]
       by_cases hqo : q = off
       · rw [if_pos hqo]
         subst hqo
         exact ⟨a.eval v, by rw [List.getElem?_set_self (by omega)], Den.mono he _ _ e2⟩
       · rw [if_neg hqo]
         obtain ⟨x, hx, hx2⟩ := DenU.cell u y _ q hd hq
         exact ⟨x, by rw [List.getElem?_set_ne (by omega)]; exact hx, Den.mono he _ _ hx2⟩
     · rw [List.getElem?_set_ne hji] at hz
       have hd := hrec j z hz
       refine DenU.mk u z _ (DenU.wf u z _ hd) fun q hq => ?_
       obtain ⟨x, hx, hx2⟩ := DenU.cell u z _ q hd hq
       refine ⟨x, ?_, Den.mono he _ _ hx2⟩
       rw [List.getElem?_set_ne ?_]
       · exact hx
       · intro e
         have h1 : (i * sz u + off) / sz u = i := by rw [Nat.mul_comm, Nat.mul_add_div (by omega), Nat.div_eq_of_lt hoff, Nat.add_zero]
         have h2 : (j * sz u + q) / sz u = j := by rw [Nat.mul_comm, Nat.mul_add_div (by omega), Nat.div_eq_of_lt hq, Nat.add_zero]
         rw [e, h2] at h1
         exact hji h1.symm
end
theorem intCell {I : Nat → Prop} {w : World} {n : Int} {z : Value} (h : Den I w (.int .i64 n) z) : z.cells = List.toArray [z] ∧ z.oneCell' = true := by
 have h : z = .int .i64 n := h
 subst h
 exact ⟨rfl, rfl⟩
theorem intI : (Tryz.prog.info? 3).map (·.size) = some 1 := by kernel_rfl
/-! ### extents -/
@[reducible] def uEx : U := .pr uI (.pr uI uI)
abbrev Xt := Int × Int × Int
@[reducible] def exL (x : Xt) : List S1 := [.d (.int .i64 x.1), .d (.int .i64 x.2.1), .d (.int .i64 x.2.2)]
def exEnd (l : List Xt) : Int := match l.getLast? with
 | none => 0
 | some x => x.1 + x.2.1
/-- One place of a kind more. -/
def exAdd (l : List Xt) (n k : Int) : List Xt := if n < 1 then l else match l.getLast? with
 | some x => if x.2.2 = k then l.set (l.length - 1) (x.1, x.2.1 + n, x.2.2) else l ++ [(exEnd l, n, k)]
 | none => l ++ [(exEnd l, n, k)]
theorem last_get {α : Type} {l : List α} {x : α} (h : l.getLast? = some x) : 0 < l.length ∧ lget l (l.length - 1) = some x := by
 rw [List.getLast?_eq_getElem?] at h
 exact ⟨by have := (List.getElem?_eq_some_iff.1 h).1; omega, h⟩
theorem last_none {α : Type} {l : List α} (h : l.getLast? = none) : l = [] := by simpa using h
theorem send_fn (l : List Xt) (hb : ∀ x, l.getLast? = some x → -4611686018427387904 ≤ x.1 ∧ x.1 ≤ 4611686018427387903 ∧ -4611686018427387904 ≤ x.2.1 ∧ x.2.1 ≤ 4611686018427387903) (hl : l.length ≤ 4294967296) :
   Fn Tryz.prog 131 [vOwn 1001] [(1001, .row 114 uEx l)] [] (vI (exEnd l)) [(1001, .row 114 uEx l)] := by
 refine Fn.of tblOK [] _ _ _ _ _ Tryz.func131 rfl rfl (by kernel_rfl) (by kernel_rfl) rfl (drawOK tblOK) rfl ?_
 refine ⟨fun h => ?_, fun h => ?_⟩
 · have h : ((l.length : Nat) : Int) = 0 := of_decide_eq_true h
   have h0 : l = [] := List.length_eq_zero_iff.1 (by omega)
   subst h0
   exact ⟨_, _, _, Le.refl _ _, rfl, rfl, ⟨rfl, trivial⟩, rfl⟩
 · have h : ¬ ((l.length : Nat) : Int) = 0 := of_decide_eq_false h
   cases hx : l.getLast? with
   | none => rw [last_none hx] at h; exact absurd rfl h
   | some x =>
     have hb := hb x hx
     obtain ⟨h0, hg⟩ := last_get hx
     have e : (((l.length : Nat) : Int) - 1).toNat = l.length - 1 := by omega
     have m : (-9223372036854775808 : Int) ≤ ((l.length : Nat) : Int) - 1 ∧ ((l.length : Nat) : Int) - 1 ≤ 9223372036854775807 := by omega
     have m2 : (0 : Int) ≤ ((l.length : Nat) : Int) - 1 ∧ (((l.length : Nat) : Int) - 1).toNat < l.length := by omega
     have m3 : (-9223372036854775808 : Int) ≤ x.1 + x.2.1 ∧ x.1 + x.2.1 ≤ 9223372036854775807 := by omega
     have hg' : lget l (((l.length : Nat) : Int) - 1).toNat = some x := by rw [e]; exact hg
     refine ⟨m, ⟨m2.1, by omega⟩, x, hg', m, ⟨m2.1, by omega⟩, x, hg', m3, rfl, ?_⟩
     exact ⟨_, _, _, Le.refl _ _, rfl, (show x.1 + x.2.1 = exEnd l by unfold exEnd; rw [hx]), ⟨rfl, trivial⟩, rfl⟩
theorem sadd_fn (l : List Xt) (n k : Int) (hb : ∀ x, l.getLast? = some x → -4611686018427387904 ≤ x.1 ∧ x.1 ≤ 4611686018427387903 ∧ -4611686018427387904 ≤ x.2.1 ∧ x.2.1 ≤ 4611686018427387903) (hn : n ≤ 4611686018427387903) (hl : l.length ≤ 1000000000) :
   Fn Tryz.prog 106 [vOwn 1001, vI n, vI k] [(1001, .row 114 uEx l)] [1002] (vOwn 1002) [(1002, .row 114 uEx (exAdd l n k))] := by
 obtain ⟨ii, ii1, ii2⟩ := inf_of intI
 have hend := send_fn l hb (by omega)
 refine Fn.of tblOK [] _ _ _ _ _ Tryz.func106 rfl rfl (by kernel_rfl) (by kernel_rfl) rfl (drawOK tblOK) rfl ?_
 refine ⟨fun h => ?_, fun h => ?_⟩
 · have h : n < 1 := of_decide_eq_true h
   have e : exAdd l n k = l := if_pos h
   exact ⟨_, _, _, Le.ren 1001 1002 rfl, rfl, rfl, ⟨congrArg (fun z : List Xt => some (Ch.row 114 uEx z)) e.symm, trivial⟩, rfl⟩
 have h : ¬ n < 1 := of_decide_eq_false h
 have m : (-9223372036854775808 : Int) ≤ ((l.length : Nat) : Int) - 1 ∧ ((l.length : Nat) : Int) - 1 ≤ 9223372036854775807 := by omega
 refine ⟨m, ?_⟩
 cases hx : l.getLast? with
 | none =>
   have h0 := last_none hx
   subst h0
   refine ⟨fun h2 => absurd h2 (by decide), fun _ => ?_⟩
   refine ⟨_, _, _, _, hend, ⟨rfl, trivial⟩, rfl, ?_⟩
   refine ⟨(show (0 + 1 : Nat) ≤ 4294967296 from by decide), rfl, ?_⟩
   have e : exAdd [] n k = [(exEnd [], n, k)] := by unfold exAdd; rw [if_neg h]; rfl
   exact ⟨_, _, _, Le.ren 42 1002 rfl, rfl, rfl, ⟨congrArg (fun z : List Xt => some (Ch.row 114 uEx z)) e.symm, trivial⟩, rfl⟩
 | some x =>
   have hb := hb x hx
   obtain ⟨h0, hg⟩ := last_get hx
   have e : (((l.length : Nat) : Int) - 1).toNat = l.length - 1 := by omega
   have hg' : lget l (((l.length : Nat) : Int) - 1).toNat = some x := by rw [e]; exact hg
   have m2 : (0 : Int) ≤ ((l.length : Nat) : Int) - 1 ∧ ((l.length : Nat) : Int) - 1 < l.length := by omega
   refine ⟨fun _ => ?_, fun h2 => ?_⟩
   · refine ⟨m2, x, hg', ?_⟩
     refine ⟨fun hk => ?_, fun hk => ?_⟩
     · have hk : x.2.2 = k := of_decide_eq_true hk
       have m3 : (-9223372036854775808 : Int) ≤ x.2.1 + n ∧ x.2.1 + n ≤ 9223372036854775807 := by omega
       refine ⟨m2, x, hg', m3, m2, ?_⟩
       refine ⟨_, _, fun N => opOK_rowSet (u := uEx) (y := x) (y' := ((x.1, x.2.1 + n, x.2.2) : Xt)) (off := 1) rfl ii1 ii2 rfl rfl rfl hg' (by decide) ⟨trivial, trivial, trivial⟩ (fun j hj => ?_) intCell N, rfl, ?_⟩
       · match j, hj with
         | 0, _ => rfl
         | 1, _ => rfl
         | 2, _ => rfl
       have e2 : exAdd l n k = l.set (((l.length : Nat) : Int) - 1).toNat (x.1, x.2.1 + n, x.2.2) := by
         unfold exAdd
         rw [if_neg h, hx, e]
         show (if x.2.2 = k then _ else _) = _
         rw [if_pos hk]
       exact ⟨_, _, _, Le.ren 1001 1002 rfl, rfl, rfl, ⟨congrArg (fun z : List Xt => some (Ch.row 114 uEx z)) e2.symm, trivial⟩, rfl⟩
     · have hk : ¬ x.2.2 = k := of_decide_eq_false hk
       refine ⟨_, _, _, _, hend, ⟨rfl, trivial⟩, rfl, ?_⟩
       have m4 : List.length (α := Xt) l + 1 ≤ 4294967296 := by omega
       refine ⟨m4, rfl, ?_⟩
       have e2 : exAdd l n k = l ++ [(exEnd l, n, k)] := by
         unfold exAdd
         rw [if_neg h, hx]
         show (if x.2.2 = k then _ else _) = _
         rw [if_neg hk]
       exact ⟨_, _, _, Le.ren 42 1002 rfl, rfl, rfl, ⟨congrArg (fun z : List Xt => some (Ch.row 114 uEx z)) e2.symm, trivial⟩, rfl⟩
   · have h2 : ¬ ((l.length : Nat) : Int) - 1 ≥ 0 := of_decide_eq_false h2
     omega
/-! ### Of -/
def exOf (ks : List Int) : List Xt := ks.foldl (fun l k => exAdd l 1 k) []
/-- What a row tells of kinds. -/
structure ExOK (ks : List Int) (l : List Xt) : Prop where
 end_ : exEnd l = (ks.length : Int)
 each : ∀ x, x ∈ l → 0 ≤ x.1 ∧ 1 ≤ x.2.1 ∧ x.1 + x.2.1 ≤ (ks.length : Int) ∧ ∀ k : Nat, x.1 ≤ (k : Int) → (k : Int) < x.1 + x.2.1 → ks[k]? = some x.2.2
 len : l.length ≤ ks.length
theorem exEnd_snoc (l : List Xt) (x : Xt) : exEnd (l ++ [x]) = x.1 + x.2.1 := by
 unfold exEnd
 rw [List.getLast?_concat]
theorem ExOK.add {ks : List Int} {l : List Xt} (h : ExOK ks l) (k : Int) : ExOK (ks ++ [k]) (exAdd l 1 k) := by
 have hold : ∀ x, x ∈ l → 0 ≤ x.1 ∧ 1 ≤ x.2.1 ∧ x.1 + x.2.1 ≤ ((ks ++ [k]).length : Int) ∧ ∀ j : Nat, x.1 ≤ (j : Int) → (j : Int) < x.1 + x.2.1 → (ks ++ [k])[j]? = some x.2.2 := fun x hx => by
   obtain ⟨h1, h2, h3, h4⟩ := h.each x hx
   refine ⟨h1, h2, by rw [List.length_append]; simp; omega, fun j hj1 hj2 => ?_⟩
   rw [List.getElem?_append_left (by omega)]
   exact h4 j hj1 hj2
 have hnew : ExOK (ks ++ [k]) (l ++ [(exEnd l, 1, k)]) := by
   refine ⟨?_, fun x hx => ?_, by simp; exact h.len⟩
   · rw [exEnd_snoc, h.end_, List.length_append]
     simp
   · rcases List.mem_append.1 hx with hx | hx
     · exact hold x hx
     · rw [List.mem_singleton] at hx
       subst hx
       refine ⟨by show 0 ≤ exEnd l; rw [h.end_]; omega, (show (1 : Int) ≤ 1 from by decide), by show exEnd l + 1 ≤ _; rw [h.end_, List.length_append]; simp, fun j hj1 hj2 => ?_⟩
       have hj1 : exEnd l ≤ (j : Int) := hj1
       have hj2 : (j : Int) < exEnd l + 1 := hj2
       rw [h.end_] at hj1 hj2
       have : j = ks.length := by omega
       subst this
       rw [List.getElem?_append_right (Nat.le_refl _)]
       simp
 unfold exAdd
 rw [if_neg (by decide)]
 cases hx : l.getLast? with
 | none => exact hnew
 | some x =>
   simp only
   split
   · rename_i hk
     obtain ⟨h0, hg⟩ := last_get hx
     have hxm : x ∈ l := List.mem_of_getElem? hg
     have hend : x.1 + x.2.1 = (ks.length : Int) := by have := h.end_; unfold exEnd at this; rw [hx] at this; exact this
     obtain ⟨h1, h2, h3, h4⟩ := h.each x hxm
     refine ⟨?_, fun y hy => ?_, by rw [List.length_set, List.length_append]; have := h.len; omega⟩
     · unfold exEnd
       rw [List.getLast?_eq_getElem?, List.length_set, List.getElem?_set_self (by omega)]
       show x.1 + (x.2.1 + 1) = _
       rw [List.length_append]
       simp
       omega
     · rcases List.mem_or_eq_of_mem_set hy with hy | rfl
       · exact hold y hy
       · refine ⟨h1, by show 1 ≤ x.2.1 + 1; omega, by show x.1 + (x.2.1 + 1) ≤ _; rw [List.length_append]; simp; omega, fun j hj1 hj2 => ?_⟩
         have hj1 : x.1 ≤ (j : Int) := hj1
         have hj2 : (j : Int) < x.1 + (x.2.1 + 1) := hj2
         show (ks ++ [k])[j]? = some x.2.2
         by_cases hj : (j : Int) < x.1 + x.2.1
         · rw [List.getElem?_append_left (by omega)]
           exact h4 j hj1 hj
         · have : j = ks.length := by omega
           subst this
           rw [List.getElem?_append_right (Nat.le_refl _), hk]
           simp
   · exact hnew
theorem exOf_snoc (ks : List Int) (k : Int) : exOf (ks ++ [k]) = exAdd (exOf ks) 1 k := by
 unfold exOf
 rw [List.foldl_append]
 rfl
theorem exOf_ok (ks : List Int) : ExOK ks (exOf ks) := by
 have key : ∀ n, n ≤ ks.length → ExOK (ks.take n) (exOf (ks.take n)) := fun n => by
   induction n with
   | zero => intro _; exact ⟨rfl, (fun _ h => by cases h), Nat.le_refl _⟩
   | succ n ih =>
     intro hn
     rw [List.take_add_one, List.getElem?_eq_getElem (by omega)]
     show ExOK (ks.take n ++ [ks[n]]) (exOf (ks.take n ++ [ks[n]]))
     rw [exOf_snoc]
     exact (ih (by omega)).add _
 have := key ks.length (Nat.le_refl _)
 rwa [List.take_length] at this
@[reducible] def soK (ks : List Int) (j : Nat) : KL := [(3, vOwn 5002), (9, vL uI ks), (10, vI (ks.length : Nat)), (11, vI (j : Nat))]
theorem sof_fn (ks : List Int) (hk : ks.length ≤ 65536) : Fn Tryz.prog 71 [vL uI ks] [] [] (vL uEx (exOf ks)) [] := by
 refine Fn.of tblOK [] _ _ _ _ _ Tryz.func71 rfl rfl (by kernel_rfl) (by kernel_rfl) rfl (drawOK tblOK) rfl ?_
 refine ⟨fun h => ?_, fun _ => ?_⟩
 · exfalso
   have h : (65536 : Int) < ((ks.length : Nat) : Int) := of_decide_eq_true h
   omega
 show TrQ _ _ _ _ _ _ _
 refine TrQ.loop tblOK (drawOK tblOK) [] (by kernel_rfl) (X := Nat) (soK ks) (fun j => [(5002, .row 114 uEx (exOf (ks.take j)))]) (fun j => j ≤ ks.length) (fun j => ks.length - j) 0 (Nat.zero_le _) ?_ ?_
 · exact (Le.nil 3 5002 114 uEx rfl rfl).trans (Le.sub ⟨rfl, rfl, rfl, rfl, trivial⟩ ⟨rfl, trivial⟩)
 intro j hj
 refine ⟨fun hc => ?_, fun hc => ?_⟩
 · have hc : decide ((j : Int) < ((ks.length : Nat) : Int)) = true := hc
   have hj1 : j < ks.length := by have := of_decide_eq_true hc; omega
   have hok := exOf_ok (ks.take j)
   have hlt : (ks.take j).length = j := by rw [List.length_take]; omega
   have hnx : exOf (ks.take (j + 1)) = exAdd (exOf (ks.take j)) 1 ks[j] := by
     rw [List.take_add_one, List.getElem?_eq_getElem hj1]
     exact exOf_snoc _ _
   refine ⟨by omega, ks[j], lgAt (n := j) hj1, ?_⟩
   refine ⟨_, _, _, _, Fn.ren [(1001, 5002)] (sadd_fn (exOf (ks.take j)) 1 ks[j] (fun x hx => ?_) (by decide) (by have := hok.len; omega)), ⟨rfl, trivial⟩, rfl, ?_⟩
   · have := hok.each x (List.mem_of_getElem? (last_get hx).2)
     omega
   exact ⟨by omega, j + 1, hj1, by omega, Le.trans (Le.sub (K' := [(3, vOwn 1002), (9, vL uI ks), (10, vI (ks.length : Nat)), (11, vI ((j + 1 : Nat) : Int))]) (B' := [(1002, .row 114 uEx (exOf (ks.take (j + 1))))]) ⟨rfl, rfl, rfl, rfl, trivial⟩ ⟨congrArg (fun z : List Xt => some (Ch.row 114 uEx z)) hnx.symm, trivial⟩) ((Le.ren 1002 5002 rfl).trans (Le.sub ⟨rfl, rfl, rfl, rfl, trivial⟩ ⟨rfl, trivial⟩))⟩
 · have hc : decide ((j : Int) < ((ks.length : Nat) : Int)) = false := hc
   have hj2 : j = ks.length := by have := of_decide_eq_false hc; omega
   subst hj2
   exact ⟨_, _, _, Le.frz 5002 rfl, rfl, (show exOf (ks.take ks.length) = exOf ks by rw [List.take_length]), trivial, rfl⟩
theorem depth_fn (bits room : Int) (L : List Dsk) (hN : ChN L) (nm : List UInt8) (d0 : Dsk) (h0 : dk L nm = some d0) (kk : Nat) (hkk : Dn L nm kk) (hk8 : kk ≤ 1000000) : Fn Tryz.prog 13 [vP 1001, vS nm] (chB bits room L) [] (.tup [.one (.d (.int .i64 (kk : Int))), vErr 0]) (chB bits room L) := by
 have hx : (mget (ku := .str) (vu := .adr) (chE L) nm).getD (dflt .adr) = some d0.ad := by rw [cget, h0]; rfl
 have hl := bl_len hkk
 refine Fn.of tblOK [] _ _ _ _ _ Tryz.func13 rfl rfl (by kernel_rfl) (by kernel_rfl) rfl (drawOK tblOK) rfl ?_
 refine ⟨fun b' hb => ?_, fun hb => absurd (show (mget (ku := .str) (vu := .adr) (chE L) nm).getD (dflt .adr) = none from hb) (by rw [hx]; intro h; cases h)⟩
 refine ⟨_, _, _, _, below_fn bits room L hN nm kk hkk hk8, ⟨rfl, rfl, rfl, rfl, trivial⟩, rfl, ?_⟩
 exact ⟨_, _, _, Le.refl _ _, rfl, ⟨(show (((bl L kk nm).length : Nat) : Int) = _ by rw [hl]), rfl, trivial⟩, ⟨rfl, rfl, rfl, rfl, trivial⟩, rfl⟩
theorem depth_no (bits room : Int) (L : List Dsk) (nm : List UInt8) (h0 : dk L nm = none) : Fn Tryz.prog 13 [vP 1001, vS nm] (chB bits room L) [] (.tup [.one (.d (.int .i64 0)), vErr 140]) (chB bits room L) := by
 have hx : (mget (ku := .str) (vu := .adr) (chE L) nm).getD (dflt .adr) = none := by rw [cget, h0]; rfl
 refine Fn.of tblOK [] _ _ _ _ _ Tryz.func13 rfl rfl (by kernel_rfl) (by kernel_rfl) rfl (drawOK tblOK) rfl ?_
 refine ⟨fun b' hb => absurd (show (mget (ku := .str) (vu := .adr) (chE L) nm).getD (dflt .adr) = some b' from hb) (by rw [hx]; intro h; cases h), fun _ => ?_⟩
 exact ⟨_, _, _, Le.refl _ _, rfl, ⟨rfl, rfl, trivial⟩, ⟨rfl, rfl, rfl, rfl, trivial⟩, rfl⟩
section
variable {bits room : Nat} {L : List Dsk}
def rwC (bits : Nat) (L : List Dsk) (nm : List UInt8) : List Xt × Int := match dk L nm with
 | none => ([], 140)
 | some d => (exOf (awyL bits L nm d.im.t.length), 0)
@[reducible] def rwK (nm : List UInt8) (n j : Nat) : KL := [(0, vP 1001), (1, vS nm), (7, vOwn 5002), (23, vI (n : Int)), (24, vI (j : Int))]
@[reducible] def rwB (bits room : Int) (L : List Dsk) (x : List Int) : BL := chB bits room L ++ [(5002, .row 3 uI x)]
@[reducible] def rwK2 (nm : List UInt8) (n j : Nat) : KL := [(0, vP 1001), (1, vS nm), (7, vOwn 37), (23, vI (n : Int)), (24, vI (j : Int))]
@[reducible] def rwB2 (bits room : Int) (L : List Dsk) (x : List Int) : BL := chB bits room L ++ [(37, .row 3 uI x)]
theorem chrow_fn (h : CS bits room L) (nm : List UInt8) : Fn Tryz.prog 14 [vP 1001, vS nm] (chB bits room L) [] (.tup [.one (.d (.lst uEx (rwC bits L nm).1)), vErr (rwC bits L nm).2]) (chB bits room L) := by
 unfold rwC
 cases h0 : dk L nm with
 | none =>
   have hx : (mget (ku := .str) (vu := .adr) (chE L) nm).getD (dflt .adr) = none := by rw [cget, h0]; rfl
   simp only
   refine Fn.of tblOK [] _ _ _ _ _ Tryz.func14 rfl rfl (by kernel_rfl) (by kernel_rfl) rfl (drawOK tblOK) rfl ?_
   refine ⟨fun b' hb => absurd (show (mget (ku := .str) (vu := .adr) (chE L) nm).getD (dflt .adr) = some b' from hb) (by rw [hx]; intro h; cases h), fun _ => ?_⟩
   exact ⟨_, _, _, Le.refl _ _, rfl, ⟨rfl, rfl, trivial⟩, ⟨rfl, rfl, rfl, rfl, trivial⟩, rfl⟩
 | some d0 =>
   obtain ⟨ia, ia1, ia2⟩ := inf_of infAdr
   obtain ⟨o1, o2, o3⟩ := h.ims d0 (dk_get h0).1
   have htl := o1.tl
   have hd := h.dep nm
   have hLd := h.toChN.D (dk_get h0).1
   have hLm := h.toChN.M (dk_get h0).1
   have hx : (mget (ku := .str) (vu := .adr) (chE L) nm).getD (dflt .adr) = some d0.ad := by rw [cget, h0]; rfl
   have hof := sof_fn (awyL bits L nm d0.im.t.length) (by rw [awyL_len]; omega)
   simp only
   refine Fn.of tblOK [] _ _ _ _ _ Tryz.func14 rfl rfl (by kernel_rfl) (by kernel_rfl) rfl (drawOK tblOK) rfl ?_
   refine ⟨fun b' hb => ?_, fun hb => absurd (show (mget (ku := .str) (vu := .adr) (chE L) nm).getD (dflt .adr) = none from hb) (by rw [hx]; intro h; cases h)⟩
   refine ⟨_, _, fun N => opOK_nilAdr (b := d0.ad) rfl (by exact adrV_eq hx) N, rfl, ?_⟩
   refine ⟨_, _, fun N => opOK_fieldAdr rfl Tryz.underlying130 rfl rfl ia1 (by rw [ia2]; decide) rfl N, rfl, ?_⟩
   refine ⟨_, _, fun N => opOK_loadRaw (q := 1003) rfl Tryz.underlying49 rfl rfl rfl hLd rfl N, rfl, ?_⟩
   refine ⟨_, _, _, _, imFn (isize_fn d0.im) hLm rfl rfl rfl rfl, ⟨rfl, trivial⟩, rfl, ?_⟩
   show TrQ _ _ _ _ _ _ _
   refine TrQ.loop tblOK (drawOK tblOK) [] (by kernel_rfl) (X := Nat) (rwK nm d0.im.t.length) (fun j => rwB bits room L (awyL bits L nm j)) (fun j => j ≤ d0.im.t.length) (fun j => d0.im.t.length - j) 0 (Nat.zero_le _) ?_ ?_
   · exact (Le.nil 7 5002 3 uI rfl rfl).trans (Le.sub ⟨rfl, rfl, rfl, rfl, rfl, trivial⟩ ⟨rfl, rfl, rfl, rfl, rfl, trivial⟩)
   intro j hj
   refine ⟨fun hc => ?_, fun hc => ?_⟩
   · have hc : decide ((j : Int) < ((d0.im.t.length : Nat) : Int)) = true := hc
     have hj1 : j < d0.im.t.length := by have := of_decide_eq_true hc; omega
     refine ⟨_, _, _, _, seen_fn bits room L h.toChOK nm d0 h0 (dpt L nm) hd.1 (by omega) j (by omega), ⟨rfl, rfl, rfl, rfl, trivial⟩, rfl, ?_⟩
     have m : List.length (α := Int) (awyL bits L nm j) + 1 ≤ 4294967296 := by rw [awyL_len]; omega
     refine ⟨m, rfl, ?_⟩
     refine ⟨by omega, j + 1, hj1, by omega, ?_⟩
     have e := awyL_succ bits L nm j
     refine Le.trans (Le.sub (K' := rwK2 nm d0.im.t.length (j + 1)) (B' := rwB2 bits room L (awyL bits L nm (j + 1))) ⟨rfl, rfl, rfl, rfl, rfl, trivial⟩ ⟨rfl, rfl, rfl, rfl, congrArg (fun z : List Int => some (Ch.row 3 uI z)) e.symm, trivial⟩) ?_
     exact (Le.ren 37 5002 rfl).trans (Le.sub ⟨rfl, rfl, rfl, rfl, rfl, trivial⟩ ⟨rfl, rfl, rfl, rfl, rfl, trivial⟩)
   · have hc : decide ((j : Int) < ((d0.im.t.length : Nat) : Int)) = false := hc
     have hj2 : j = d0.im.t.length := by have := of_decide_eq_false hc; omega
     subst hj2
     refine ⟨_, _, _, _, (Fn.own (d := 5002) (e := 3) (u := uI) (xs := awyL bits L nm d0.im.t.length) (args := [vOwn 5002]) hof rfl), ⟨rfl, trivial⟩, rfl, ?_⟩
     exact ⟨_, _, _, Le.refl _ _, rfl, ⟨rfl, rfl, trivial⟩, ⟨rfl, rfl, rfl, rfl, trivial⟩, rfl⟩
def dpC (L : List Dsk) (nm : List UInt8) : Int × Int := match dk L nm with
 | none => (0, 140)
 | some _ => ((dpt L nm : Nat), 0)
theorem chdepth_fn (h : CS bits room L) (nm : List UInt8) : Fn Tryz.prog 13 [vP 1001, vS nm] (chB bits room L) [] (.tup [.one (.d (.int .i64 (dpC L nm).1)), vErr (dpC L nm).2]) (chB bits room L) := by
 unfold dpC
 cases h0 : dk L nm with
 | none => exact depth_no bits room L nm h0
 | some d =>
   have hd := h.dep nm
   exact depth_fn bits room L h.toChN nm d h0 (dpt L nm) hd.1 (by omega)
end
end Go.Proofs.YteoamepgonpdlaaGreat
/-!
  The document's rows of kinds; its chain (layer 14): Away, Cluster, All, Row.
-/
namespace Go.Proofs.YteoamepgonpdlaaGreat
set_option linter.unusedVariables false
set_option linter.unusedSimpArgs false
set_option maxRecDepth 10000
open Go.RowKit Go.Proofs
/-! ### Of -/
theorem exAdd_snoc (l : List Xt) (x : Xt) (k : Int) : exAdd (l ++ [x]) 1 k = if x.2.2 = k then l ++ [(x.1, x.2.1 + 1, x.2.2)] else l ++ [x] ++ [(x.1 + x.2.1, 1, k)] := by
 unfold exAdd
 rw [if_neg (by decide), List.getLast?_concat]
 simp only
 split
 · rw [List.length_append, List.length_singleton, Nat.add_sub_cancel, List.set_append_right _ _ (Nat.le_refl _), Nat.sub_self]
   rfl
 · rw [exEnd_snoc]
@[reducible] def mkX9 (f n k : Int) : Xt := (f, n, k)
/-- Of: what is out, and where the next one begins, ahead of the k-th kind. -/
structure OfI (ks : List Int) (k : Nat) (out : List Xt) (f : Nat) : Prop where
 lt : f < k
 le : k ≤ ks.length
 ol : out.length ≤ f
 eq : exOf (ks.take k) = out ++ [mkX9 (f : Nat) ((k : Int) - (f : Int)) (ks.getD f 0)]
@[reducible] def qofK (ks : List Int) (o f k : Nat) : KL := [(0, vL uI ks), (3, vOwn o), (4, vI (f : Nat)), (5, vI (k : Nat))]
@[reducible] def qofB (o : Nat) (x : List Xt) : BL := [(o, .row 114 uEx x)]
theorem rof_fn (ks : List Int) (hk : ks.length ≤ 65536) : Fn Tryz.prog 78 [vL uI ks] [] [] (vL uEx (exOf ks)) [] := by
 refine Fn.of tblOK [9] _ _ _ _ _ Tryz.func78 rfl rfl (by kernel_rfl) (by kernel_rfl) rfl (drawOK tblOK) rfl ?_
 show TrQ _ _ _ _ _ _ _
 refine TrQ.loop tblOK (drawOK tblOK) [9] (by kernel_rfl) (X := Nat × List Xt × Nat) (fun x => qofK ks 2003 x.2.2 x.1) (fun x => qofB 2003 x.2.1) (fun x => (x.1 = 1 ∧ x.2.1 = [] ∧ x.2.2 = 0 ∧ ks = []) ∨ (OfI ks x.1 x.2.1 x.2.2) ∨ (x.1 = ks.length + 1 ∧ x.2.1 = exOf ks)) (fun x => ks.length + 1 - x.1) (1, [], 0) ?_ ?_ ?_
 · cases ks with
   | nil => exact .inl ⟨rfl, rfl, rfl, rfl⟩
   | cons a ks => exact .inr (.inl ⟨Nat.zero_lt_one, Nat.succ_le_succ (Nat.zero_le _), Nat.le_refl _, rfl⟩)
 · exact Le.trans (Le.nil 3 2003 114 uEx rfl rfl) (Le.sub ⟨rfl, rfl, rfl, rfl, trivial⟩ ⟨rfl, trivial⟩)
 rintro ⟨k, out, f⟩ hI
 have fin : (k = 1 ∧ out = [] ∧ ks = []) ∨ (k = ks.length + 1 ∧ out = exOf ks) → out = exOf ks := fun h => by
   rcases h with ⟨_, h, e⟩ | ⟨_, h⟩
   · rw [h, e]; rfl
   · exact h
 refine ⟨fun h1 => ?_, fun h1 => ?_⟩
 · have h1 : ((k : Nat) : Int) ≤ ((ks.length : Nat) : Int) := of_decide_eq_true h1
   rcases hI with ⟨e1, e2, e3, e4⟩ | hI | ⟨e1, e2⟩
   · exfalso
     have e1 : k = 1 := e1
     subst e1 e4
     exact absurd h1 (by decide)
   · have hI : OfI ks k out f := hI
     obtain ⟨g1, g2, g3, g4⟩ := hI
     have hf : f < ks.length := by omega
     have hgf : ks.getD f 0 = ks[f] := by rw [List.getD_eq_getElem?_getD, List.getElem?_eq_getElem hf]; rfl
     rw [hgf] at g4
     refine ⟨fun _ => ?_, fun h2 => absurd (show decide (((ks.length : Nat) : Int) ≤ 65536) = false from h2) (by rw [decide_eq_true (by omega)]; decide)⟩
     have b1 : (-9223372036854775808 : Int) ≤ ((k : Nat) : Int) - ((f : Nat) : Int) ∧ ((k : Nat) : Int) - ((f : Nat) : Int) ≤ 9223372036854775807 := by omega
     have b2 : List.length (α := Xt) out + 1 ≤ 4294967296 := by
       have : List.length (α := Xt) out ≤ f := g3
       omega
     have tail : ∀ (f' : Nat) (out' : List Xt), ((OfI ks (k + 1) out' f') ∨ (k + 1 = ks.length + 1 ∧ out' = exOf ks)) → (k + 1 = 1 ∧ out' = [] ∧ f' = 0 ∧ ks = []) ∨ (OfI ks (k + 1) out' f') ∨ (k + 1 = ks.length + 1 ∧ out' = exOf ks) := fun f' out' h => .inr h
     refine ⟨fun h2 => ?_, fun h2 => ?_⟩
     · have h2 : ((k : Nat) : Int) = ((ks.length : Nat) : Int) := of_decide_eq_true h2
       have h2 : k = ks.length := by omega
       refine ⟨rfl, ?_⟩
       refine ⟨b1, ?_⟩
       refine ⟨by omega, ks[f], lgAt (n := f) hf, ?_⟩
       refine ⟨b2, rfl, ?_⟩
       have e5 : exOf ks = out ++ [mkX9 (f : Nat) ((k : Int) - (f : Int)) ks[f]] := by rw [← g4, h2, List.take_length]
       refine ⟨by omega, (k + 1, exOf ks, k), .inr (.inr ⟨by show k + 1 = ks.length + 1; omega, rfl⟩), by show ks.length + 1 - (k + 1) < ks.length + 1 - k; omega, Le.trans (Le.sub (K' := qofK ks 43 k (k + 1)) (B' := qofB 43 (exOf ks)) ⟨rfl, rfl, rfl, rfl, trivial⟩ ⟨?_, trivial⟩) (Le.ren 43 2003 rfl)⟩
       rw [e5]
       rfl
     · have h2 : ¬ ((k : Nat) : Int) = ((ks.length : Nat) : Int) := of_decide_eq_false h2
       have hk1 : k < ks.length := by omega
       have hgk : ks.getD k 0 = ks[k] := by rw [List.getD_eq_getElem?_getD, List.getElem?_eq_getElem hk1]; rfl
       have hs : exOf (ks.take (k + 1)) = exAdd (out ++ [mkX9 (f : Nat) ((k : Int) - (f : Int)) ks[f]]) 1 ks[k] := by
         rw [List.take_succ_eq_append_getElem hk1, exOf_snoc, g4]
       rw [exAdd_snoc] at hs
       refine ⟨by omega, ks[k], lgAt (n := k) hk1, ?_⟩
       refine ⟨by omega, ks[f], lgAt (n := f) hf, ?_⟩
       refine ⟨rfl, fun h3 => ?_, fun h3 => ?_⟩
       · have h3 : (!decide (ks[k] = ks[f])) = true := h3
         have h3 : ¬ ks[k] = ks[f] := by simpa using h3
         rw [if_neg (fun e => h3 e.symm)] at hs
         refine ⟨b1, ?_⟩
         refine ⟨by omega, ks[f], lgAt (n := f) hf, ?_⟩
         refine ⟨b2, rfl, ?_⟩
         have hI2 : OfI ks (k + 1) (out ++ [mkX9 (f : Nat) ((k : Int) - (f : Int)) ks[f]]) k := by
           refine ⟨Nat.lt_succ_self _, hk1, ?_, ?_⟩
           · rw [List.length_append]
             show List.length (α := Xt) out + 1 ≤ k
             have : List.length (α := Xt) out ≤ f := g3
             omega
           · rw [hs, hgk]
             have a1 : ((f : Nat) : Int) + (((k : Nat) : Int) - ((f : Nat) : Int)) = ((k : Nat) : Int) := by omega
             have a2 : (((k + 1 : Nat) : Nat) : Int) - ((k : Nat) : Int) = 1 := by omega
             show _ ++ [((((f : Nat) : Int) + (((k : Nat) : Int) - ((f : Nat) : Int)), 1, ks[k]) : Xt)] = _
             rw [a1, a2]
         exact ⟨by omega, (k + 1, out ++ [mkX9 (f : Nat) ((k : Int) - (f : Int)) ks[f]], k), .inr (.inl hI2), by show ks.length + 1 - (k + 1) < ks.length + 1 - k; omega, Le.trans (Le.sub (K' := qofK ks 43 k (k + 1)) (B' := qofB 43 (out ++ [mkX9 (f : Nat) ((k : Int) - (f : Int)) ks[f]])) ⟨rfl, rfl, rfl, rfl, trivial⟩ ⟨rfl, trivial⟩) (Le.ren 43 2003 rfl)⟩
       · have h3 : (!decide (ks[k] = ks[f])) = false := h3
         have h3 : ks[k] = ks[f] := by simpa using h3
         rw [if_pos h3.symm] at hs
         have hI2 : OfI ks (k + 1) out f := by
           refine ⟨by omega, hk1, g3, ?_⟩
           rw [hs, hgf]
           have a2 : (((k + 1 : Nat) : Nat) : Int) - ((f : Nat) : Int) = ((k : Nat) : Int) - ((f : Nat) : Int) + 1 := by omega
           rw [a2]
         exact ⟨by omega, (k + 1, out, f), .inr (.inl hI2), by show ks.length + 1 - (k + 1) < ks.length + 1 - k; omega, Le.sub ⟨rfl, rfl, rfl, rfl, trivial⟩ ⟨rfl, trivial⟩⟩
   · exfalso
     have e1 : k = ks.length + 1 := e1
     omega
 · have h1 : ¬ ((k : Nat) : Int) ≤ ((ks.length : Nat) : Int) := of_decide_eq_false h1
   have e : out = exOf ks := by
     rcases hI with ⟨e1, e2, e3, e4⟩ | hI | ⟨e1, e2⟩
     · exact fin (.inl ⟨e1, e2, e4⟩)
     · exfalso
       have := hI.le
       have : k ≤ ks.length := this
       omega
     · exact e2
   subst e
   show TrQ _ _ _ _ _ _ _
   refine TrQ.go tblOK (drawOK tblOK) [] (by kernel_rfl) (Le.frz 2003 rfl) ?_
   exact ⟨_, _, _, Le.refl _ _, rfl, rfl, trivial, rfl⟩
/-! ### Away -/
def enR (l : List Rdk) : Nat → List UInt8 → Prop
 | 0, n => gtR l n = none
 | f + 1, n => match gtR l n with
   | none => True
   | some d => enR l f (dB d)
/-- How many images one is away that has no Hole for a cluster, and 1; and which it is. -/
def awF (l : List Rdk) (k : Nat) : Nat → List UInt8 → Option (Nat × List UInt8)
 | 0, _ => none
 | f + 1, n => match gtR l n with
   | none => none
   | some d => if k < (mC (dIm d)).length ∧ kdM (dIm d) k ≠ 0 then some (1, n) else match awF l k f (dB d) with
     | some (m, x) => some (m + 1, x)
     | none => none
theorem awF_le (l : List Rdk) (k : Nat) : ∀ f n m x, awF l k f n = some (m, x) → m ≤ f ∧ ∃ d, gtR l x = some d ∧ k < (mC (dIm d)).length ∧ kdM (dIm d) k ≠ 0
 | 0, n, m, x, h => by cases h
 | f + 1, n, m, x, h => by
   unfold awF at h
   split at h
   · cases h
   · rename_i d hd
     split at h
     · rename_i h1
       injection h with h
       injection h with h2 h3
       subst h2 h3
       exact ⟨Nat.succ_le_succ (Nat.zero_le _), d, hd, h1⟩
     · split at h
       · rename_i m' x' h2
         injection h with h
         injection h with h3 h4
         subst h3 h4
         obtain ⟨g1, g2⟩ := awF_le l k f _ _ _ h2
         exact ⟨Nat.succ_le_succ g1, g2⟩
       · cases h
def awN (l : List Rdk) (k : Nat) (n : List UInt8) : Int := match awF l k 20 n with
 | some (m, _) => (m : Nat)
 | none => 0
def awI (l : List Rdk) (k : Nat) (n : List UInt8) : Int := match awF l k 20 n with
 | some (_, x) => fdI l x
 | none => -1
@[reducible] def awK (l : List Rdk) (k j : Nat) (n : List UInt8) : KL := [(2, vI (k : Int)), (3, vP 3), (8, vI (fdI l n)), (9, vI ((j : Nat) + 1 : Int))]
set_option maxHeartbeats 1000000 in
theorem caway_fn (bits room : Int) (l : List Rdk) (n : List UInt8) (k : Nat) (hl : l.length ≤ 1073741824) (he : enR l 19 n) : Fn Tryz.prog 77 [rcV bits room l, vS n, vI (k : Int)] [] [] (.tup [.one (.d (.int .i64 (awN l k n))), .one (.d (.int .i64 (awI l k n)))]) [] := by
 refine Fn.of tblOK [] _ _ _ _ _ Tryz.func77 rfl rfl (by kernel_rfl) (by kernel_rfl) rfl (drawOK tblOK) rfl ?_
 refine ⟨rfl, ?_⟩
 refine ⟨_, _, _, _, cfind_fn bits room l n hl, trivial, rfl, ?_⟩
 show TrQ _ _ _ _ _ _ _
 refine TrQ.loop tblOK (drawOK tblOK) [] (by kernel_rfl) (X := Nat × List UInt8) (fun x => awK l k x.1 x.2) (fun _ => [(3, .cells (rcL bits room l))]) (fun x => x.1 ≤ 19 ∧ enR l (19 - x.1) x.2 ∧ awF l k 20 n = match awF l k (20 - x.1) x.2 with | some (m, y) => some (m + x.1, y) | none => none) (fun x => 20 - x.1) (0, n) ⟨Nat.zero_le _, he, ?_⟩ ?_ ?_
 · show awF l k 20 n = match awF l k 20 n with | some (m, y) => some (m + 0, y) | none => none
   cases awF l k 20 n with
   | none => rfl
   | some p => rfl
 · exact Le.sub ⟨rfl, rfl, rfl, rfl, trivial⟩ ⟨rfl, trivial⟩
 rintro ⟨j, nm⟩ ⟨hj, hen, heq⟩
 have hj : j ≤ 19 := hj
 have hen : enR l (19 - j) nm := hen
 have heq : awF l k 20 n = match awF l k (20 - j) nm with | some (m, y) => some (m + j, y) | none => none := heq
 have hf : 20 - j = (19 - j) + 1 := by omega
 have eA : awF l k (20 - j) nm = match gtR l nm with
   | none => none
   | some d => if k < (mC (dIm d)).length ∧ kdM (dIm d) k ≠ 0 then some (1, nm) else match awF l k (19 - j) (dB d) with
     | some (m, x) => some (m + 1, x)
     | none => none := by rw [hf]; rfl
 refine ⟨fun h1 => ?_, fun h1 => ?_⟩
 · have h1 : 0 ≤ fdI l nm := of_decide_eq_true h1
   obtain ⟨i, hi, e1, e2, e3⟩ := fdI_pos (l := l) (n := nm) (by omega)
   have hget : lget l (fdI l nm).toNat = some l[i] := by rw [show (fdI l nm).toNat = i by omega]; exact lgAt (n := i) hi
   have hin : (0 : Int) ≤ fdI l nm ∧ fdI l nm < ((l.length : Nat) : Int) := by omega
   rw [e2] at eA
   simp only at eA
   rw [eA] at heq
   have next : ¬ (k < (mC (dIm l[i])).length ∧ kdM (dIm l[i]) k ≠ 0) → (19 - j = (19 - (j + 1)) + 1 ∧ enR l (19 - (j + 1)) (dB l[i]) ∨ gtR l (dB l[i]) = none ∧ j = 19) ∧ (awF l k 20 n = match awF l k (20 - (j + 1)) (dB l[i]) with | some (m, y) => some (m + (j + 1), y) | none => none) := fun hno => by
     rw [if_neg hno] at heq
     refine ⟨?_, ?_⟩
     · rcases Nat.lt_or_ge j 19 with h | h
       · left
         have h19 : 19 - j = (19 - (j + 1)) + 1 := by omega
         refine ⟨h19, ?_⟩
         rw [h19, enR, e2] at hen
         exact hen
       · right
         have hj19 : j = 19 := by omega
         subst hj19
         exfalso
         have hen : gtR l nm = none := hen
         rw [hen] at e2
         cases e2
     · rw [show 20 - (j + 1) = 19 - j by omega, heq]
       cases awF l k (19 - j) (dB l[i]) with
       | none => rfl
       | some p => show some (p.1 + 1 + j, p.2) = some (p.1 + (j + 1), p.2); rw [Nat.add_assoc, Nat.add_comm 1 j]
   refine ⟨hin.1, l[i], hget, ?_⟩
   have go : ¬ (k < (mC (dIm l[i])).length ∧ kdM (dIm l[i]) k ≠ 0) → j + 1 ≤ 19 ∧ enR l (19 - (j + 1)) (dB l[i]) ∧ (awF l k 20 n = match awF l k (20 - (j + 1)) (dB l[i]) with | some (m, y) => some (m + (j + 1), y) | none => none) := fun hno => by
     obtain ⟨g1, g2⟩ := next hno
     rcases g1 with ⟨g1, g3⟩ | ⟨g1, g3⟩
     · exact ⟨by omega, g3, g2⟩
     · exfalso
       subst g3
       have hen : gtR l nm = none := hen
       rw [hen] at e2
       cases e2
   refine ⟨fun h2 => ?_, fun h2 => ?_⟩
   · have h2 : ((k : Nat) : Int) < (((mC (dIm l[i])).length : Nat) : Int) := of_decide_eq_true h2
     have h2 : k < (mC (dIm l[i])).length := by omega
     have hkd := kdM_at h2
     refine ⟨hin.1, l[i], hget, ?_⟩
     refine ⟨by omega, (mC (dIm l[i]))[k], lgAt (n := k) h2, ?_⟩
     refine ⟨fun h3 => ?_, fun h3 => ?_⟩
     · have h3 : (!decide (ceK (mC (dIm l[i]))[k] = 0)) = true := h3
       have h3 : ¬ ceK (mC (dIm l[i]))[k] = 0 := by simpa using h3
       rw [if_pos ⟨h2, by rw [hkd]; exact h3⟩] at heq
       have heq : awF l k 20 n = some (1 + j, nm) := heq
       refine ⟨_, _, _, Le.refl _ _, rfl, ⟨?_, ?_, trivial⟩, trivial, rfl⟩
       · show ((j : Nat) : Int) + 1 = awN l k n
         unfold awN
         rw [heq]
         show ((j : Nat) : Int) + 1 = ((1 + j : Nat) : Int)
         omega
       · show fdI l nm = awI l k n
         unfold awI
         rw [heq]
     · have h3 : (!decide (ceK (mC (dIm l[i]))[k] = 0)) = false := h3
       have h3 : ceK (mC (dIm l[i]))[k] = 0 := by simpa using h3
       obtain ⟨w1, w2, w3⟩ := go (fun q => q.2 (by rw [hkd]; exact h3))
       refine ⟨hin.1, l[i], hget, ?_⟩
       refine ⟨_, _, _, _, cfind_fn bits room l (dB l[i]) hl, trivial, rfl, ?_⟩
       refine ⟨rfl, ?_⟩
       exact ⟨by omega, (j + 1, dB l[i]), ⟨w1, w2, w3⟩, by show 20 - (j + 1) < 20 - j; omega, Le.sub ⟨rfl, rfl, rfl, rfl, trivial⟩ ⟨rfl, trivial⟩⟩
   · have h2 : ¬ ((k : Nat) : Int) < (((mC (dIm l[i])).length : Nat) : Int) := of_decide_eq_false h2
     obtain ⟨w1, w2, w3⟩ := go (fun q => by have := q.1; omega)
     refine ⟨hin.1, l[i], hget, ?_⟩
     refine ⟨_, _, _, _, cfind_fn bits room l (dB l[i]) hl, trivial, rfl, ?_⟩
     refine ⟨rfl, ?_⟩
     exact ⟨by omega, (j + 1, dB l[i]), ⟨w1, w2, w3⟩, by show 20 - (j + 1) < 20 - j; omega, Le.sub ⟨rfl, rfl, rfl, rfl, trivial⟩ ⟨rfl, trivial⟩⟩
 · have h1 : ¬ 0 ≤ fdI l nm := of_decide_eq_false h1
   have e := fdI_neg (l := l) (n := nm) (by omega)
   rw [e] at eA
   rw [eA] at heq
   have heq : awF l k 20 n = none := heq
   refine ⟨_, _, _, Le.refl _ _, rfl, ⟨?_, ?_, trivial⟩, trivial, rfl⟩
   · show (0 : Int) = awN l k n
     unfold awN
     rw [heq]
   · show (-1 : Int) = awI l k n
     unfold awI
     rw [heq]
/-! ### Cluster, All, Row -/
/-- A chain of the document. -/
structure COK (n : Nat) (l : List Rdk) : Prop where
 len : l.length ≤ 16
 ok : ∀ d, d ∈ l → MOK n (dIm d)
 en : ∀ x, enR l 19 x
theorem gtR_mem {l : List Rdk} {x : List UInt8} {d : Rdk} (h : gtR l x = some d) : d ∈ l := by
 obtain ⟨i, hi, _, e, _⟩ := fdI_some h
 rw [← e]
 exact List.getElem_mem hi
def clR (n : Nat) (l : List Rdk) (x : List UInt8) (k : Nat) : List UInt8 := match awF l k 20 x with
 | some (_, y) => (match gtR l y with
   | some d => (readM n (dIm d) ((k * n : Nat) : Int) (n : Nat)).1
   | none => [])
 | none => List.replicate (16 * n) 0
theorem readM_len {n : Nat} {m : Rim} (h : MOK n m) {k : Nat} (hk : k < (mC m).length) : insE n (mC m).length ((k * n : Nat) : Int) (n : Nat) = 0 ∧ (readM n m ((k * n : Nat) : Int) (n : Nat)).1 = rdTo n m (k * n) n ∧ (rdTo n m (k * n) n).length = 16 * n := by
 have hm : (k + 1) * n ≤ (mC m).length * n := Nat.mul_le_mul_right n hk
 rw [Nat.succ_mul, Nat.mul_comm (mC m).length n] at hm
 have he : insE n (mC m).length ((k * n : Nat) : Int) (n : Nat) = 0 := by
   unfold insE
   generalize hN : n * (mC m).length = N at *
   generalize hQ : k * n = Q at *
   rw [if_neg (by omega), if_neg (by omega), if_neg (by omega), if_neg (by omega)]
 refine ⟨he, ?_, rdTo_len h n hm⟩
 unfold readM
 rw [if_pos he]
 simp only [Int.toNat_natCast]
theorem clR_len {n : Nat} {l : List Rdk} (h : COK n l) (x : List UInt8) (k : Nat) : (clR n l x k).length = 16 * n := by
 unfold clR
 split
 · rename_i m y e
   obtain ⟨_, d, e1, e2, _⟩ := awF_le l k 20 x m y e
   rw [e1]
   simp only
   obtain ⟨_, g2, g3⟩ := readM_len (h.ok d (gtR_mem e1)) e2
   rw [g2, g3]
 · exact List.length_replicate
set_option maxHeartbeats 1000000 in
theorem ccluster_fn {n : Nat} {l : List Rdk} (h : COK n l) (bits room : Int) (x : List UInt8) (k : Nat) {d : Rdk} (hd : gtR l x = some d) (hk : k < (mC (dIm d)).length) : Fn Tryz.prog 74 [rcV bits room l, vS x, vI (k : Int)] [] [] (vS (clR n l x k)) [] := by
 have hl := h.len
 obtain ⟨i, hi, e1, e2, e3⟩ := fdI_some hd
 have hget : lget l (fdI l x).toNat = some d := by rw [show (fdI l x).toNat = i by omega, ← e2]; exact lgAt (n := i) hi
 have hin : (0 : Int) ≤ fdI l x ∧ fdI l x < ((l.length : Nat) : Int) := by omega
 have hM := h.ok d (gtR_mem hd)
 have hnm := hM.nm
 have hn8 := hM.n8
 have hcl := hM.cl
 have q16 : -9223372036854775808 ≤ 16 * mN (dIm d) ∧ 16 * mN (dIm d) ≤ 9223372036854775807 := by omega
 have e16 : (16 * mN (dIm d)).toNat = 16 * n := by omega
 have m16 : 0 ≤ 16 * mN (dIm d) ∧ 16 * mN (dIm d) ≤ 4294967296 := by omega
 unfold clR
 refine Fn.of tblOK [] _ _ _ _ _ Tryz.func74 rfl rfl (by kernel_rfl) (by kernel_rfl) rfl (drawOK tblOK) rfl ?_
 refine ⟨rfl, ?_⟩
 refine ⟨_, _, _, _, cfind_fn bits room l x (by omega), trivial, rfl, ?_⟩
 refine ⟨fun h1 => absurd (show decide (fdI l x < 0) = true from h1) (by rw [decide_eq_false (by omega)]; decide), fun _ => ?_⟩
 refine ⟨fun h1 => absurd (show decide ((k : Int) < 0) = true from h1) (by rw [decide_eq_false (by omega)]; decide), fun _ => ?_⟩
 refine ⟨hin.1, d, hget, ?_⟩
 refine ⟨fun h1 => absurd (show decide ((((mC (dIm d)).length : Nat) : Int) ≤ (k : Int)) = true from h1) (by rw [decide_eq_false (by omega)]; decide), fun _ => ?_⟩
 refine ⟨hin.1, d, hget, ?_⟩
 refine ⟨_, _, _, _, caway_fn bits room l x k (by omega) (h.en x), trivial, rfl, ?_⟩
 unfold awI
 cases ea : awF l k 20 x with
 | none =>
   refine ⟨fun _ => ?_, fun h1 => absurd (show decide ((-1 : Int) < 0) = false from h1) (by decide)⟩
   refine ⟨q16, ?_⟩
   refine ⟨⟨rfl, m16⟩, rfl, ?_⟩
   rw [← e16]
   exact ⟨_, _, _, Le.refl _ _, rfl, rfl, trivial, rfl⟩
 | some p =>
   obtain ⟨m, y⟩ := p
   obtain ⟨_, d2, f1, f2, _⟩ := awF_le l k 20 x m y ea
   obtain ⟨i2, hi2, f3, f4, f5⟩ := fdI_some f1
   have hM2 := h.ok d2 (gtR_mem f1)
   simp only
   rw [f1]
   simp only
   refine ⟨fun h1 => absurd (show decide (fdI l y < 0) = true from h1) (by rw [decide_eq_false (by omega)]; decide), fun _ => ?_⟩
   refine ⟨by omega, d2, (by rw [show (fdI l y).toNat = i2 by omega, ← f4]; exact lgAt (n := i2) hi2), ?_⟩
   have ek : (k : Int) * mN (dIm d) = ((k * n : Nat) : Int) := by rw [hnm, Int.natCast_mul]
   have hkn : k * n ≤ 256 * 8 := Nat.mul_le_mul (by omega) hn8
   have qk : -9223372036854775808 ≤ (k : Int) * mN (dIm d) ∧ (k : Int) * mN (dIm d) ≤ 9223372036854775807 := by rw [ek]; omega
   refine ⟨qk, ?_⟩
   refine ⟨_, _, _, _, Fn.arg (args := [imV (dIm d2), vI ((k : Int) * mN (dIm d)), vI (mN (dIm d))]) (mread_fn hM2 ((k * n : Nat) : Int) (n : Nat)) ⟨⟨rfl, rfl, rfl, rfl, rfl, trivial⟩, ek, hnm, trivial⟩, trivial, rfl, ?_⟩
   exact ⟨_, _, _, Le.refl _ _, rfl, rfl, trivial, rfl⟩
def alTo (n : Nat) (l : List Rdk) (x : List UInt8) : Nat → List UInt8
 | 0 => []
 | k + 1 => alTo n l x k ++ clR n l x k
theorem alTo_len {n : Nat} {l : List Rdk} (h : COK n l) (x : List UInt8) : ∀ k, (alTo n l x k).length = 16 * n * k
 | 0 => rfl
 | k + 1 => by rw [alTo, List.length_append, alTo_len h x k, clR_len h, Nat.mul_succ]
@[reducible] def alK (x : List UInt8) (i : Int) (a : List UInt8) (k : Nat) : KL := [(1, vS x), (2, vP 2), (5, vS a), (6, vI i), (7, vI (k : Nat))]
theorem call_fn {n : Nat} {l : List Rdk} (h : COK n l) (bits room : Int) (x : List UInt8) {d : Rdk} (hd : gtR l x = some d) : Fn Tryz.prog 29 [rcV bits room l, vS x] [] [] (vS (alTo n l x (mC (dIm d)).length)) [] := by
 have hl := h.len
 obtain ⟨i, hi, e1, e2, e3⟩ := fdI_some hd
 have hget : lget l (fdI l x).toNat = some d := by rw [show (fdI l x).toNat = i by omega, ← e2]; exact lgAt (n := i) hi
 have hin : (0 : Int) ≤ fdI l x ∧ fdI l x < ((l.length : Nat) : Int) := by omega
 have hM := h.ok d (gtR_mem hd)
 have hn8 := hM.n8
 have hcl := hM.cl
 refine Fn.of tblOK [] _ _ _ _ _ Tryz.func29 rfl rfl (by kernel_rfl) (by kernel_rfl) rfl (drawOK tblOK) rfl ?_
 refine ⟨rfl, ?_⟩
 refine ⟨_, _, _, _, cfind_fn bits room l x (by omega), trivial, rfl, ?_⟩
 show TrQ _ _ _ _ _ _ _
 refine TrQ.loop tblOK (drawOK tblOK) [] (by kernel_rfl) (X := Nat) (fun k => alK x (fdI l x) (alTo n l x k) k) (fun _ => [(2, .cells (rcL bits room l))]) (fun k => k ≤ (mC (dIm d)).length) (fun k => (mC (dIm d)).length - k) 0 (Nat.zero_le _) ?_ ?_
 · exact Le.sub ⟨rfl, rfl, rfl, rfl, rfl, trivial⟩ ⟨rfl, trivial⟩
 intro k hk
 refine ⟨fun _ => ?_, fun h1 => absurd (show decide (0 ≤ fdI l x) = false from h1) (by rw [decide_eq_true (by omega)]; decide)⟩
 refine ⟨hin.1, d, hget, ?_⟩
 refine ⟨fun h1 => ?_, fun h1 => ?_⟩
 · have h1 : ((k : Nat) : Int) < (((mC (dIm d)).length : Nat) : Int) := of_decide_eq_true h1
   refine ⟨_, _, _, _, ccluster_fn h bits room x k hd (by omega), trivial, rfl, ?_⟩
   have g1 := alTo_len h x k
   have g2 := clR_len h x k
   have g3 : 16 * n * k ≤ 16 * 8 * 256 := Nat.mul_le_mul (Nat.mul_le_mul_left 16 hn8) (by omega)
   have g4 : (alTo n l x k).length + (clR n l x k).length ≤ 4294967296 := by omega
   refine ⟨g4, ?_⟩
   exact ⟨by omega, k + 1, by omega, by omega, Le.sub ⟨rfl, rfl, rfl, rfl, rfl, trivial⟩ ⟨rfl, trivial⟩⟩
 · have h1 : ¬ ((k : Nat) : Int) < (((mC (dIm d)).length : Nat) : Int) := of_decide_eq_false h1
   have hk1 : k = (mC (dIm d)).length := by omega
   subst hk1
   exact ⟨_, _, _, Le.refl _ _, rfl, rfl, trivial, rfl⟩
def kdTo (l : List Rdk) (x : List UInt8) (k : Nat) : List Int := (List.range k).map fun c => awN l c x
theorem kdTo_succ (l : List Rdk) (x : List UInt8) (k : Nat) : kdTo l x (k + 1) = kdTo l x k ++ [awN l k x] := by
 unfold kdTo
 rw [List.range_succ, List.map_append]
 rfl
theorem kdTo_len (l : List Rdk) (x : List UInt8) (k : Nat) : (kdTo l x k).length = k := by unfold kdTo; rw [List.length_map, List.length_range]
@[reducible] def kwK (x : List UInt8) (i : Int) (o k : Nat) : KL := [(1, vS x), (2, vP 2), (5, vOwn o), (6, vI i), (7, vI (k : Nat))]
@[reducible] def kwB (bits room : Int) (l : List Rdk) (o : Nat) (y : List Int) : BL := [(2, .cells (rcL bits room l)), (o, .row 3 uI y)]
theorem crow_fn {n : Nat} {l : List Rdk} (h : COK n l) (bits room : Int) (x : List UInt8) {d : Rdk} (hd : gtR l x = some d) : Fn Tryz.prog 31 [rcV bits room l, vS x] [] [] (vL uEx (exOf (kdTo l x (mC (dIm d)).length))) [] := by
 have hl := h.len
 obtain ⟨i, hi, e1, e2, e3⟩ := fdI_some hd
 have hget : lget l (fdI l x).toNat = some d := by rw [show (fdI l x).toNat = i by omega, ← e2]; exact lgAt (n := i) hi
 have hin : (0 : Int) ≤ fdI l x ∧ fdI l x < ((l.length : Nat) : Int) := by omega
 have hM := h.ok d (gtR_mem hd)
 have hcl := hM.cl
 refine Fn.of tblOK [8] _ _ _ _ _ Tryz.func31 rfl rfl (by kernel_rfl) (by kernel_rfl) rfl (drawOK tblOK) rfl ?_
 refine ⟨rfl, ?_⟩
 refine ⟨_, _, _, _, cfind_fn bits room l x (by omega), trivial, rfl, ?_⟩
 show TrQ _ _ _ _ _ _ _
 refine TrQ.loop tblOK (drawOK tblOK) [8] (by kernel_rfl) (X := Nat) (fun k => kwK x (fdI l x) 2003 k) (fun k => kwB bits room l 2003 (kdTo l x k)) (fun k => k ≤ (mC (dIm d)).length) (fun k => (mC (dIm d)).length - k) 0 (Nat.zero_le _) ?_ ?_
 · exact Le.trans (Le.nil 5 2003 3 uI rfl rfl) (Le.sub ⟨rfl, rfl, rfl, rfl, rfl, trivial⟩ ⟨rfl, rfl, trivial⟩)
 intro k hk
 refine ⟨fun _ => ?_, fun h1 => absurd (show decide (0 ≤ fdI l x) = false from h1) (by rw [decide_eq_true (by omega)]; decide)⟩
 refine ⟨hin.1, d, hget, ?_⟩
 refine ⟨fun h1 => ?_, fun h1 => ?_⟩
 · have h1 : ((k : Nat) : Int) < (((mC (dIm d)).length : Nat) : Int) := of_decide_eq_true h1
   refine ⟨_, _, _, _, caway_fn bits room l x k (by omega) (h.en x), trivial, rfl, ?_⟩
   have b1 : List.length (α := Int) (kdTo l x k) + 1 ≤ 4294967296 := by
     have : List.length (α := Int) (kdTo l x k) = k := kdTo_len l x k
     omega
   refine ⟨b1, rfl, ?_⟩
   refine ⟨by omega, k + 1, by omega, by omega, Le.trans (Le.sub (K' := kwK x (fdI l x) 39 (k + 1)) (B' := kwB bits room l 39 (kdTo l x (k + 1))) ⟨rfl, rfl, rfl, rfl, rfl, trivial⟩ ⟨rfl, ?_, trivial⟩) (Le.ren 39 2003 rfl)⟩
   rw [kdTo_succ]
   rfl
 · have h1 : ¬ ((k : Nat) : Int) < (((mC (dIm d)).length : Nat) : Int) := of_decide_eq_false h1
   have hk1 : k = (mC (dIm d)).length := by omega
   subst hk1
   show TrQ _ _ _ _ _ _ _
   refine TrQ.go tblOK (drawOK tblOK) [] (by kernel_rfl) (Le.frz 2003 rfl) ?_
   refine ⟨_, _, _, _, rof_fn (kdTo l x (mC (dIm d)).length) (by have : List.length (α := Int) (kdTo l x (mC (dIm d)).length) = (mC (dIm d)).length := kdTo_len l x _; omega), trivial, rfl, ?_⟩
   exact ⟨_, _, _, Le.refl _ _, rfl, rfl, trivial, rfl⟩
end Go.Proofs.YteoamepgonpdlaaGreat
/-!
  The program's chain and the document's: what both have: names, depths, users, what is read.
-/
namespace Go.Proofs.YteoamepgonpdlaaGreat
set_option linter.unusedVariables false
set_option linter.unusedSimpArgs false
set_option maxRecDepth 10000
open Go.RowKit Go.Proofs
/-! ### rows of rising names -/
theorem rise_sort {l : List (List UInt8)} (h : l.Nodup) : (l.mergeSort Go.leB).Pairwise (· < ·) := by
 have tr : ∀ a b c : List UInt8, Go.leB a b = true → Go.leB b c = true → Go.leB a c = true := fun a b c h1 h2 => by simp only [Go.leB, decide_eq_true_eq] at *; exact List.le_trans h1 h2
 have to : ∀ a b : List UInt8, (Go.leB a b || Go.leB b a) = true := fun a b => by simp only [Go.leB, Bool.or_eq_true, decide_eq_true_eq]; exact List.le_total a b
 have h1 : (l.mergeSort Go.leB).Pairwise fun a b => Go.leB a b = true := List.pairwise_mergeSort tr to _
 have h2 : (l.mergeSort Go.leB).Nodup := (List.mergeSort_perm _ _).nodup_iff.2 h
 exact List.Pairwise.imp₂ (fun a b hle hne => by
   have hle : a ≤ b := by simpa [Go.leB] using hle
   rcases List.le_iff_lt_or_eq.1 hle with h | h
   · exact h
   · exact absurd h hne) h1 h2
theorem rise_ext : ∀ {a b : List (List UInt8)}, a.Pairwise (· < ·) → b.Pairwise (· < ·) → (∀ x, x ∈ a ↔ x ∈ b) → a = b
 | [], [], _, _, _ => rfl
 | [], y :: b, _, _, h => absurd ((h y).2 (List.mem_cons_self ..)) (List.not_mem_nil)
 | x :: a, [], _, _, h => absurd ((h x).1 (List.mem_cons_self ..)) (List.not_mem_nil)
 | x :: a, y :: b, ha, hb, h => by
   obtain ⟨a1, a2⟩ := List.pairwise_cons.1 ha
   obtain ⟨b1, b2⟩ := List.pairwise_cons.1 hb
   have e : x = y := by
     rcases List.mem_cons.1 ((h x).1 (List.mem_cons_self ..)) with e | e
     · exact e
     · rcases List.mem_cons.1 ((h y).2 (List.mem_cons_self ..)) with e2 | e2
       · exact e2.symm
       · exact absurd (List.lt_trans (b1 x e) (a1 y e2)) (List.lt_irrefl _)
   subst e
   rw [rise_ext a2 b2 fun z => ?_]
   constructor
   · intro hz
     rcases List.mem_cons.1 ((h z).1 (List.mem_cons_of_mem _ hz)) with e | e
     · subst e; exact absurd (a1 z hz) (List.lt_irrefl _)
     · exact e
   · intro hz
     rcases List.mem_cons.1 ((h z).2 (List.mem_cons_of_mem _ hz)) with e | e
     · subst e; exact absurd (b1 z hz) (List.lt_irrefl _)
     · exact e
theorem nmsS_rise {L : List Dsk} (h : (L.map (·.nm)).Nodup) : (nmsS L).Pairwise (· < ·) := by
 unfold nmsS keysS
 rw [mkeys_chE]
 exact rise_sort h
theorem nmsS_iff {L : List Dsk} {n : List UInt8} : n ∈ nmsS L ↔ n ∈ L.map (·.nm) := by
 unfold nmsS keysS
 rw [List.mem_mergeSort, mkeys_chE]
theorem nmsS_dk {L : List Dsk} {n : List UInt8} : n ∈ nmsS L ↔ ∃ d, dk L n = some d := by
 constructor
 · exact nmsS_mem
 · rintro ⟨d, hd⟩
   rw [nmsS_iff]
   obtain ⟨h1, h2⟩ := dk_get hd
   exact List.mem_map.2 ⟨d, h1, h2⟩
/-! ### who stands on whom -/
/-- Both have the same names, and the same below them. -/
def BK (L : List Dsk) (l : List Rdk) : Prop := ∀ x, (gtR l x).map (fun e => dB e) = (dk L x).map (·.back)
theorem BK.get {L : List Dsk} {l : List Rdk} (h : BK L l) (x : List UInt8) : (dk L x = none ∧ gtR l x = none) ∨ ∃ d e, dk L x = some d ∧ gtR l x = some e ∧ dB e = d.back := by
 have := h x
 cases e1 : dk L x with
 | none =>
   rw [e1] at this
   cases e2 : gtR l x with
   | none => exact .inl ⟨rfl, rfl⟩
   | some e => rw [e2] at this; cases this
 | some d =>
   rw [e1] at this
   cases e2 : gtR l x with
   | none => rw [e2] at this; cases this
   | some e => rw [e2] at this; injection this with this; exact .inr ⟨d, e, rfl, rfl, this⟩
theorem BK.dp {L : List Dsk} {l : List Rdk} (h : BK L l) {x : List UInt8} {k : Nat} (hD : Dn L x k) : ∀ f, k ≤ f → qdpF l f x = k := by
 induction hD with
 | @gone nm h0 =>
   intro f _
   cases f with
   | zero => rfl
   | succ f =>
     rcases h.get nm with ⟨_, e⟩ | ⟨d, e, e1, _⟩
     · have : onR l nm = none := by unfold onR; rw [e]
       rw [qdpF, this]
     · rw [h0] at e1; cases e1
 | @base nm d h0 hb =>
   intro f _
   cases f with
   | zero => rfl
   | succ f =>
     rcases h.get nm with ⟨e1, _⟩ | ⟨d2, e, e1, e2, e3⟩
     · rw [h0] at e1; cases e1
     · rw [h0] at e1
       injection e1 with e1
       subst e1
       have : onR l nm = none := by unfold onR; rw [e2]; exact if_pos (e3.trans hb)
       rw [qdpF, this]
 | @step nm d k h0 hb hD ih =>
   intro f hf
   cases f with
   | zero => omega
   | succ f =>
     rcases h.get nm with ⟨e1, _⟩ | ⟨d2, e, e1, e2, e3⟩
     · rw [h0] at e1; cases e1
     · rw [h0] at e1
       injection e1 with e1
       subst e1
       have : onR l nm = some d.back := by
         unfold onR; rw [e2]; simp only
         rw [if_neg (fun q => hb (e3.symm.trans q)), e3]
       rw [qdpF, this]
       simp only
       rw [ih f (by omega)]
theorem BK.en {L : List Dsk} {l : List Rdk} (h : BK L l) (hne : ∀ d, d ∈ L → d.nm ≠ []) {x : List UInt8} {k : Nat} (hD : Dn L x k) : ∀ f, k + 1 ≤ f → enR l f x := by
 induction hD with
 | @gone nm h0 =>
   intro f hf
   rcases h.get nm with ⟨_, e⟩ | ⟨d, e, e1, _⟩
   · cases f with
     | zero => exact e
     | succ f => unfold enR; rw [e]; trivial
   · rw [h0] at e1; cases e1
 | @base nm d h0 hb =>
   intro f hf
   cases f with
   | zero => omega
   | succ f =>
     rcases h.get nm with ⟨e1, _⟩ | ⟨d2, e, e1, e2, e3⟩
     · rw [h0] at e1; cases e1
     · rw [h0] at e1
       injection e1 with e1
       subst e1
       unfold enR
       rw [e2]
       simp only
       rw [e3, hb]
       have e0 : gtR l [] = none := by
         rcases h.get [] with ⟨_, e⟩ | ⟨d3, e, e1, _⟩
         · exact e
         · obtain ⟨g1, g2⟩ := dk_get e1
           exact absurd g2 (hne _ g1)
       cases f with
       | zero => exact e0
       | succ f => unfold enR; rw [e0]; trivial
 | @step nm d k h0 hb hD ih =>
   intro f hf
   cases f with
   | zero => omega
   | succ f =>
     rcases h.get nm with ⟨e1, _⟩ | ⟨d2, e, e1, e2, e3⟩
     · rw [h0] at e1; cases e1
     · rw [h0] at e1
       injection e1 with e1
       subst e1
       unfold enR
       rw [e2]
       simp only
       rw [e3]
       exact ih f (by omega)
/-! ### chains -/
structure RC (n bits room : Nat) (L : List Dsk) (l : List Rdk) : Prop where
 n2 : n = 2 ^ bits
 nm : l.map (fun e => dN e) = nmsS L
 bk : BK L l
 ri : ∀ x d e, dk L x = some d → gtR l x = some e → RI n d.im (dIm e)
section
variable {n bits room : Nat} {L : List Dsk} {l : List Rdk} {s : ImS} {m : Rim}
theorem RC.get (h : RC n bits room L l) {x : List UInt8} {d : Dsk} (hd : dk L x = some d) : ∃ e, gtR l x = some e ∧ dB e = d.back ∧ RI n d.im (dIm e) := by
 rcases h.bk.get x with ⟨e1, _⟩ | ⟨d2, e, e1, e2, e3⟩
 · rw [hd] at e1; cases e1
 · rw [hd] at e1
   injection e1 with e1
   subst e1
   exact ⟨e, e2, e3, h.ri x d e hd e2⟩
theorem RC.no (h : RC n bits room L l) {x : List UInt8} (hd : dk L x = none) : gtR l x = none := by
 rcases h.bk.get x with ⟨_, e⟩ | ⟨d2, e, e1, _⟩
 · exact e
 · rw [hd] at e1; cases e1
theorem RC.len (h : RC n bits room L l) : l.length = L.length := by
 have := congrArg List.length h.nm
 rw [List.length_map, nmsS_len] at this
 exact this
theorem RC.mem (h : RC n bits room L l) (hC : CS bits room L) {e : Rdk} (he : e ∈ l) : ∃ d, dk L (dN e) = some d ∧ gtR l (dN e) = some e := by
 have h1 : dN e ∈ nmsS L := by rw [← h.nm]; exact List.mem_map.2 ⟨e, he, rfl⟩
 obtain ⟨d, hd⟩ := nmsS_mem h1
 refine ⟨d, hd, ?_⟩
 have hnd : (l.map (fun e => dN e)).Nodup := by
   rw [h.nm]
   exact (nmsS_rise hC.nms).imp fun hlt e => by subst e; exact List.lt_irrefl _ hlt
 obtain ⟨e2, g1, _⟩ := h.get hd
 obtain ⟨i, hi, _, i2, i3⟩ := fdI_some g1
 obtain ⟨j, hj, rfl⟩ := List.getElem_of_mem he
 have hij : i = j := by
   have e1 : (l.map (fun e => dN e))[i]'(by rw [List.length_map]; exact hi) = (l.map (fun e => dN e))[j]'(by rw [List.length_map]; exact hj) := by
     rw [List.getElem_map, List.getElem_map, i2]
     exact i3
   exact (List.getElem_inj hnd).1 e1
 subst hij
 rw [g1, ← i2]
theorem RC.cok (h : RC n bits room L l) (hC : CS bits room L) : COK n l where
 len := by rw [h.len]; exact hC.len
 ok := fun e he => by
   obtain ⟨d, hd, hg⟩ := h.mem hC he
   exact (h.ri _ d e hd hg).ok
 en := fun x => by
   obtain ⟨h1, h2⟩ := hC.dep x
   exact h.bk.en hC.ne h1 19 (by omega)
theorem RC.dp (h : RC n bits room L l) (hC : CS bits room L) (x : List UInt8) : dqR l x = dpt L x := by
 obtain ⟨h1, h2⟩ := hC.dep x
 exact h.bk.dp h1 99 (by omega)
theorem gt_dN {l : List Rdk} {x : List UInt8} {e : Rdk} (h : gtR l x = some e) : dN e = x := by
 obtain ⟨_, _, _, _, g⟩ := fdI_some h
 exact g
theorem filter_names {f : List UInt8 → Bool} {g : Rdk → Bool} : ∀ {l : List Rdk}, (∀ e, e ∈ l → g e = f (dN e)) → (l.filter g).map (fun e => dN e) = (l.map (fun e => dN e)).filter f
 | [], _ => rfl
 | e :: l, h => by
   have ih := filter_names (f := f) (g := g) (l := l) fun e he => h e (List.mem_cons_of_mem _ he)
   have h0 := h e (List.mem_cons_self ..)
   rw [List.map_cons, List.filter_cons, List.filter_cons, ← h0]
   cases g e with
   | true => simp only [if_true]; rw [List.map_cons, ih]
   | false => exact ih
theorem RC.us (h : RC n bits room L l) (hC : CS bits room L) (x : List UInt8) : usR l x = usrS L x := by
 unfold usR usrS
 rw [← h.nm]
 refine filter_names (l := l) fun e he => ?_
 obtain ⟨d, hd, hg⟩ := h.mem hC he
 obtain ⟨e2, g1, g2, _⟩ := h.get hd
 rw [hg] at g1
 injection g1 with g1
 subst g1
 unfold isUsr
 rw [hd, g2]
 rfl
/-! ### what is read -/
theorem RC.see (h : RC n bits room L l) (hC : CS bits room L) (c : Nat) {x : List UInt8} {k : Nat} (hD : Dn L x k) (hx : ∃ d, dk L x = some d) : ∀ f, k < f → ∀ i,
   seenL bits L c (x :: bl L k x) i = match awF l c f x with
     | some (j, y) => (((dk L y).map fun d => clus d.im c none).getD [], i + j)
     | none => (List.replicate (16 * 2 ^ bits) 0, 0) := by
 have one : ∀ {nm : List UInt8} {d : Dsk} {e : Rdk}, dk L nm = some d → RI n d.im (dIm e) → ((c < d.im.t.length ∧ (d.im.t.getD c s0).1 ≠ 0) ↔ (c < (mC (dIm e)).length ∧ kdM (dIm e) c ≠ 0)) := fun {nm d e} hd hr => by
   rw [hr.len]
   constructor
   · rintro ⟨g1, g2⟩; exact ⟨g1, by rw [hr.kd c g1]; exact g2⟩
   · rintro ⟨g1, g2⟩; exact ⟨g1, by rw [← hr.kd c g1]; exact g2⟩
 induction hD with
 | @gone nm h0 => obtain ⟨d, hd⟩ := hx; rw [h0] at hd; cases hd
 | @base nm d h0 hb =>
   intro f hf i
   obtain ⟨e, g1, g2, g3⟩ := h.get h0
   cases f with
   | zero => omega
   | succ f =>
     show seenL bits L c [nm] i = _
     rw [awF, g1]
     simp only
     by_cases q : c < d.im.t.length ∧ (d.im.t.getD c s0).1 ≠ 0
     · rw [if_pos ((one h0 g3).1 q), seenL_head h0 q]
       simp only
       rw [h0]
       rfl
     · rw [if_neg (fun w => q ((one h0 g3).2 w)), seenL_tail h0 q]
       have e0 : gtR l (dB e) = none := by
         rw [g2, hb]
         refine h.no ?_
         cases e5 : dk L [] with
         | none => rfl
         | some d3 => obtain ⟨w1, w2⟩ := dk_get e5; exact absurd w2 (hC.ne _ w1)
       have e6 : awF l c f (dB e) = none := by
         cases f with
         | zero => rfl
         | succ f => rw [awF, e0]
       rw [e6]
       rfl
 | @step nm d k h0 hb hD ih =>
   intro f hf i
   obtain ⟨e, g1, g2, g3⟩ := h.get h0
   cases f with
   | zero => omega
   | succ f =>
     have eb : bl L (k + 1) nm = d.back :: bl L k d.back := by rw [bl, h0]
     rw [eb, awF, g1]
     simp only
     by_cases q : c < d.im.t.length ∧ (d.im.t.getD c s0).1 ≠ 0
     · rw [if_pos ((one h0 g3).1 q), seenL_head h0 q]
       simp only
       rw [h0]
       rfl
     · rw [if_neg (fun w => q ((one h0 g3).2 w)), seenL_tail h0 q, ih (hC.kn d (dk_get h0).1 hb) f (by omega) (i + 1), g2]
       cases awF l c f d.back with
       | none => rfl
       | some p =>
         show (_, i + 1 + p.1) = (_, i + (p.1 + 1))
         rw [show i + 1 + p.1 = i + (p.1 + 1) by omega]
theorem RI.rd (h : RI n s m) {c : Nat} (hc : c < s.t.length) (hk : kdM m c ≠ 0) : rdTo n m (c * n) n = clus s c none := by
 have hc2 : c < (mC m).length := by rw [h.len]; exact hc
 have n1 := h.ok.n1
 have e0 : clus s c none = clusM n m c [] := by
   have h1 := h.ct c hc
   have hkd := h.kd c hc
   unfold clusM
   rw [List.getElem?_eq_getElem hc2]
   simp only
   rw [← kdM_at hc2, ← idM_at hc2, if_neg hk]
   by_cases e : kdM m c = 1
   · rw [if_pos e]; exact h1 e
   · rw [if_neg e]
     unfold clus
     rw [List.getD_eq_getElem?_getD, List.getElem?_eq_getElem hc] at hkd
     rw [List.getElem?_eq_getElem hc]
     simp only [Option.getD_some] at hkd ⊢
     rw [if_neg (fun q => e (hkd.trans q)), if_neg (fun q => hk (hkd.trans q))]
     unfold zer
     rw [h.wd]
 have hl := clusM_len h.ok hc2 []
 rw [e0]
 have e := sec_all (Z := clusM n m c []) (f := fun k => rdS n m (c * n + k)) (g := fun k => rdTo n m (c * n) k) rfl (fun _ => rfl) n (Nat.le_of_eq hl.symm) fun k hk => by
   show _ = rdS n m (c * n + k)
   unfold rdS sec
   have d1 : (c * n + k) / n = c := by rw [Nat.mul_comm, Nat.mul_add_div n1, Nat.div_eq_of_lt hk, Nat.add_zero]
   have d2 : (c * n + k) % n = k := by rw [Nat.mul_comm, Nat.mul_add_mod, Nat.mod_eq_of_lt hk]
   rw [d1, d2, Nat.mul_comm 16 k]
 rw [← hl, List.take_length] at e
 exact e.symm
theorem RC.cl (h : RC n bits room L l) (hC : CS bits room L) {x : List UInt8} (hx : ∃ d, dk L x = some d) (c : Nat) : clR n l x c = cseen bits L x (dpt L x) c := by
 obtain ⟨hD, h8⟩ := hC.dep x
 unfold cseen clR
 rw [h.see hC c hD hx 20 (by omega) 0]
 cases ea : awF l c 20 x with
 | none => simp only; rw [h.n2]
 | some p =>
   obtain ⟨j, y⟩ := p
   obtain ⟨_, e, g1, g2, g3⟩ := awF_le l c 20 x j y ea
   simp only
   rcases h.bk.get y with ⟨_, e2⟩ | ⟨d, e2, w1, w2, _⟩
   · rw [g1] at e2; cases e2
   · rw [g1] at w2
     injection w2 with w2
     subst w2
     have hr := h.ri y d e w1 g1
     rw [g1, w1]
     simp only [Option.map_some, Option.getD_some]
     rw [(readM_len hr.ok g2).2.1]
     exact hr.rd (by rw [← hr.len]; exact g2) g3
theorem RC.aw (h : RC n bits room L l) (hC : CS bits room L) {x : List UInt8} (hx : ∃ d, dk L x = some d) (c : Nat) : awN l c x = (awy bits L x c : Nat) := by
 obtain ⟨hD, h8⟩ := hC.dep x
 unfold awy awN
 rw [h.see hC c hD hx 20 (by omega) 0]
 cases awF l c 20 x with
 | none => rfl
 | some p => show ((p.1 : Nat) : Int) = ((0 + p.1 : Nat) : Int); rw [Nat.zero_add]
theorem RC.kd (h : RC n bits room L l) (hC : CS bits room L) {x : List UInt8} (hx : ∃ d, dk L x = some d) (k : Nat) : kdTo l x k = awyL bits L x k := by
 unfold kdTo awyL
 exact List.map_congr_left fun c _ => h.aw hC hx c
/-- All that is read, by clusters and by sectors. -/
theorem RC.al (h : RC n bits room L l) (hC : CS bits room L) {x : List UInt8} (hx : ∃ d, dk L x = some d) : ∀ k, crdK bits L x (dpt L x) 0 (n * k) = alTo n l x k
 | 0 => rfl
 | k + 1 => by
   have n1 : 1 ≤ n := by rw [h.n2]; exact Nat.one_le_two_pow
   have hl := clR_len (h.cok hC) x k
   have e := sec_all (Z := clR n l x k) (f := fun j => crdP bits L x (dpt L x) (0 + (n * k + j))) (g := fun j => (crdK bits L x (dpt L x) 0 (n * k + j)).drop (crdK bits L x (dpt L x) 0 (n * k)).length) (by simp) (fun j => by
     show (crdK bits L x (dpt L x) 0 (n * k + (j + 1))).drop _ = _
     rw [show n * k + (j + 1) = (n * k + j) + 1 by omega, crdK, List.drop_append_of_le_length]
     induction j with
     | zero => exact Nat.le_refl _
     | succ j ih => rw [show n * k + (j + 1) = (n * k + j) + 1 by omega, crdK, List.length_append]; omega) n (Nat.le_of_eq hl.symm) fun j hj => by
     show _ = crdP bits L x (dpt L x) (0 + (n * k + j))
     rw [crdP_sec, Nat.zero_add, ← h.n2, Nat.mul_add_div n1, Nat.div_eq_of_lt hj, Nat.add_zero, Nat.mul_add_mod, Nat.mod_eq_of_lt hj, h.cl hC hx k]
   rw [← hl, List.take_length] at e
   have e2 : crdK bits L x (dpt L x) 0 (n * (k + 1)) = crdK bits L x (dpt L x) 0 (n * k) ++ clR n l x k := by
     rw [e, Nat.mul_succ]
     have key : ∀ j, (crdK bits L x (dpt L x) 0 (n * k + j)).take (crdK bits L x (dpt L x) 0 (n * k)).length = crdK bits L x (dpt L x) 0 (n * k) := fun j => by
       induction j with
       | zero => exact List.take_length
       | succ j ih =>
         have hle : (crdK bits L x (dpt L x) 0 (n * k)).length ≤ (crdK bits L x (dpt L x) 0 (n * k + j)).length := by
           have := congrArg List.length ih
           rw [List.length_take] at this
           omega
         rw [show n * k + (j + 1) = (n * k + j) + 1 by omega, crdK, List.take_append_of_le_length hle, ih]
     have := List.take_append_drop (crdK bits L x (dpt L x) 0 (n * k)).length (crdK bits L x (dpt L x) 0 (n * k + n))
     rw [key n] at this
     exact this.symm
   rw [e2, h.al hC hx k, alTo]
end
end Go.Proofs.YteoamepgonpdlaaGreat
