/-
  PushFrozen: if Before is called ahead of each write, the result has each of its clusters as it read when the job began.
-/
import Derived.Test.YtbcngglcaeehbaaGreatLw
set_option linter.unusedVariables false
set_option linter.unusedSimpArgs false
set_option maxRecDepth 10000
namespace Go.Proofs.YtbcngglcaeehbaaGreat
open Go.RowKit Go.Proofs
/-! ### a cluster that is not written to reads as before, from whoever stands there -/
section
variable {bits room : Nat} {L : List Dsk} {nm t : List UInt8} {d : Dsk} {im : ImS} {k : Nat}
theorem seen_same (hd : dk L t = some d) (hl : im.t.length = d.im.t.length) (hk : Same d.im im k) : ∀ (ns : List (List UInt8)) (i : Nat), seenL bits (lim L t im none) k ns i = seenL bits L k ns i
  | [], _ => rfl
  | n :: ns, i => by
    have ih := seen_same hd hl hk ns (i + 1)
    show (match dk (lim L t im none) n with | none => ([], 0) | some d => if k < d.im.t.length ∧ (d.im.t.getD k s0).1 ≠ 0 then (clus d.im k none, i + 1) else seenL bits (lim L t im none) k ns (i + 1)) = match dk L n with | none => ([], 0) | some d => if k < d.im.t.length ∧ (d.im.t.getD k s0).1 ≠ 0 then (clus d.im k none, i + 1) else seenL bits L k ns (i + 1)
    by_cases e : n = t
    · subst e
      rw [dk_lim_self hd, hd, ih]
      have hg : im.t.getD k s0 = d.im.t.getD k s0 := by rw [List.getD_eq_getElem?_getD, List.getD_eq_getElem?_getD, hk.1]
      simp only
      rw [hl, hg, hk.2 none]
    · rw [dk_lim_ne e, ih]
theorem cseen_same (h : CS bits room L) (hd : dk L t = some d) (hl : im.t.length = d.im.t.length) (hk : Same d.im im k) (n : List UInt8) : cseen bits (lim L t im none) n (dpt (lim L t im none) n) k = cseen bits L n (dpt L n) k := by
  rw [dpt_lim h]
  unfold cseen
  rw [bl_lim, seen_same hd hl hk]
theorem far_range {W a l c : Nat} (hW : isW W) (h : 0 < l → ¬ (16 * a < (c + 1) * W ∧ c * W < 16 * (a + l))) : c < 16 * a / W ∨ 16 * a / W + pcN W a l ≤ c := by
  by_cases hl : 0 < l
  · have hx : ¬ (16 * a / W ≤ c ∧ c < 16 * a / W + pcN W a l) := fun x => h hl ((pc_range hW hl).1 x)
    omega
  · have : l = 0 := by omega
    subst this
    have : pcN W a 0 = 0 := rfl
    omega
/-- A cluster is apart from what is written. -/
def apt (bits k : Nat) (a long : Int) : Prop := ((k * 2 ^ bits + 2 ^ bits : Nat) : Int) ≤ a ∨ a ≤ ((k * 2 ^ bits : Nat) : Int) - long
theorem apt_far {a l : Nat} (h : l < 1 ∨ apt bits k (a : Int) (l : Int)) : 0 < l → ¬ (16 * a < (k + 1) * (16 * 2 ^ bits) ∧ k * (16 * 2 ^ bits) < 16 * (a + l)) := by
  rintro hl ⟨g1, g2⟩
  have e1 : (k + 1) * (16 * 2 ^ bits) = 16 * (k * 2 ^ bits) + 16 * 2 ^ bits := by rw [Nat.succ_mul, Nat.mul_left_comm]
  have e2 : k * (16 * 2 ^ bits) = 16 * (k * 2 ^ bits) := Nat.mul_left_comm ..
  rw [e1] at g1
  rw [e2] at g2
  rcases h with h | h | h
  · omega
  · omega
  · omega
theorem doW_keep (h : CS bits room L) (q : Cq) (hf : (if qK q = 1 then (((qB q).length : Nat) : Int) / 16 else qL q) < 1 ∨ apt bits k (qA q) (if qK q = 1 then (((qB q).length : Nat) : Int) / 16 else qL q)) (n : List UInt8) :
    cseen bits (doW bits L t q).L n (dpt (doW bits L t q).L n) k = cseen bits L n (dpt L n) k := by
  unfold doW
  split
  · rename_i c1
    rw [if_pos c1] at hf
    by_cases he : (wrC bits L t (qA q) (qB q)).e = 0
    · obtain ⟨d, hd, hbl, ha, hin, hnd, hL⟩ := wrC_inv he
      rw [hL]
      obtain ⟨hO, hbt, _⟩ := h.ims d (dk_get hd).1
      have hI := (wrI hO hbl (iIns_all hin) (belY bits L t (dpt L t)) hnd _ (Nat.le_refl _)).1
      refine cseen_same h hd hI.like.tl (hI.far k (far_range (wid_isW hO.bits) ?_)) n
      rw [wid_eq h hd]
      refine apt_far ?_
      rw [ha] at hf
      generalize (qA q).toNat = a0 at *
      rcases hf with hf | hf
      · exact .inl (by omega)
      · refine .inr ?_
        rw [show (((qB q).length / 16 : Nat) : Int) = (((qB q).length : Nat) : Int) / 16 by omega]
        exact hf
    · rw [wrC_err h he]
  · rename_i c1
    rw [if_neg c1] at hf
    split
    · by_cases he : (zrC bits L t (qA q) (qL q)).e = 0
      · obtain ⟨d, hd, ha, hl, hin, hnd, hL⟩ := zrC_inv he
        rw [hL]
        obtain ⟨hO, hbt, _⟩ := h.ims d (dk_get hd).1
        have hI := zrI hO (iIns_all hin) (belY bits L t (dpt L t)) hnd _ (Nat.le_refl _)
        refine cseen_same h hd hI.like.tl (hI.far k (far_range (wid_isW hO.bits) ?_)) n
        rw [wid_eq h hd]
        refine apt_far ?_
        rw [ha, hl] at hf
        generalize (qA q).toNat = a0 at *
        generalize (qL q).toNat = l0 at *
        exact hf.imp (fun h => by omega) id
      · rw [zrC_err h he]
    · split
      · unfold dsC
        cases hd : dk L t with
        | none => rfl
        | some d =>
          simp only
          split
          · rfl
          · rename_i hin
            have hin : iIns d.im (qA q) (qL q) = 0 := Decidable.byContradiction hin
            obtain ⟨ha, hl⟩ := iIns_pos hin
            rw [ha, hl] at hin
            obtain ⟨hO, hbt, _⟩ := h.ims d (dk_get hd).1
            have hI := dsI hO (iIns_all hin) _ (Nat.le_refl _)
            refine cseen_same h hd hI.like.tl (hI.far k (far_range (wid_isW hO.bits) ?_)) n
            rw [wid_eq h hd]
            refine apt_far ?_
            rw [ha, hl] at hf
            generalize (qA q).toNat = a0 at *
            generalize (qL q).toNat = l0 at *
            exact hf.imp (fun h => by omega) id
      · rfl
/-! ### what a disk reads, cluster by cluster -/
theorem sec_both {x : List UInt8} (h : x.length = 32) : sec x 0 ++ sec x 1 = x := by
  unfold sec
  show (x.take 16).drop 0 ++ (x.take 32).drop 16 = x
  rw [List.take_of_length_le (show x.length ≤ 32 by omega), List.drop_zero, List.take_append_drop]
theorem crd_clus {kk : Nat} : ∀ n : Nat, (∀ k, k < n → (cseen 1 L nm kk k).length = 32) → (crdK 1 L nm kk 0 (2 * n)).length = 32 * n ∧ ∀ k, k < n → ((crdK 1 L nm kk 0 (2 * n)).take (k * 32 + 32)).drop (k * 32) = cseen 1 L nm kk k
  | 0, _ => ⟨rfl, fun k h => absurd h (Nat.not_lt_zero k)⟩
  | n + 1, h => by
    obtain ⟨i1, i2⟩ := crd_clus n fun k hk => h k (by omega)
    have e : crdK 1 L nm kk 0 (2 * (n + 1)) = crdK 1 L nm kk 0 (2 * n) ++ cseen 1 L nm kk n := by
      show (crdK 1 L nm kk 0 (2 * n) ++ crdP 1 L nm kk (0 + 2 * n)) ++ crdP 1 L nm kk (0 + (2 * n + 1)) = _
      rw [crdP_sec, crdP_sec, show (0 + 2 * n) / 2 ^ 1 = n by omega, show (0 + 2 * n) % 2 ^ 1 = 0 by omega, show (0 + (2 * n + 1)) / 2 ^ 1 = n by omega, show (0 + (2 * n + 1)) % 2 ^ 1 = 1 by omega, List.append_assoc, sec_both (h n (by omega))]
    rw [e]
    have hn := h n (by omega)
    refine ⟨by rw [List.length_append, i1, hn]; omega, fun k hk => ?_⟩
    by_cases ek : k = n
    · subst ek
      rw [List.take_of_length_le (by rw [List.length_append, i1, hn]; omega), show k * 32 = (crdK 1 L nm kk 0 (2 * k)).length by rw [i1]; omega, List.drop_left]
    · rw [List.take_append_of_le_length (by rw [i1]; omega)]
      exact i2 k (by omega)
/-! ### what was copied is what was -/
def Fz (bits : Nat) (L : List Dsk) (nm : List UInt8) (W : Nat → List UInt8) (l : List Nat) (g : List (Nat × List UInt8)) : Prop := (∀ p, p ∈ g → p.2 = W p.1) ∧ ∀ k, k ∈ l → clC bits L nm (k : Int) = W k
variable {W : Nat → List UInt8} {l : List Nat} {g : List (Nat × List UInt8)}
theorem Fz.cp (h : Fz bits L nm W l g) (rm : Int) {k : Nat} (hk : k ∈ l) : Fz bits L nm W (pucp bits L nm rm l g k).l (pucp bits L nm rm l g k).g := by
  unfold pucp
  split
  · exact ⟨h.1, fun q hq => by cases hq⟩
  · refine ⟨fun p hp => ?_, fun q hq => h.2 q (List.mem_of_mem_erase hq)⟩
    have hp : p ∈ g ++ [(k, clC bits L nm (k : Int))] := hp
    rcases List.mem_append.1 hp with hp | hp
    · exact h.1 p hp
    · obtain rfl := List.mem_singleton.1 hp
      exact h.2 k hk
theorem Fz.step (h : Fz bits L nm W l g) (rm : Int) (over done : Bool) : Fz bits L nm W (pustep bits L nm rm l g over done).l (pustep bits L nm rm l g over done).g := by
  unfold pustep
  split
  · exact h
  · split
    · exact ⟨h.1, fun q hq => by cases hq⟩
    · rename_i hne
      exact h.cp rm (mnN_spec hne).2.1
theorem Fz.bf (rm a long : Int) : ∀ (ks l : List Nat) (g : List (Nat × List UInt8)), Fz bits L nm W l g → l.Nodup → (∀ k, k ∈ ks → k ∈ l) → ks.Nodup →
    Fz bits L nm W (pubf bits L nm rm a long ks l g).l (pubf bits L nm rm a long ks l g).g ∧ ((pubf bits L nm rm a long ks l g).over = false → ∀ q, q ∈ (pubf bits L nm rm a long ks l g).l → q ∈ l ∧ (q ∈ ks → apt bits q a long))
  | [], l, g, h, _, _, _ => ⟨h, fun _ q hq => ⟨hq, fun e => by cases e⟩⟩
  | k :: ks, l, g, h, hd, hks, hn => by
    unfold pubf
    have hn := List.nodup_cons.1 hn
    have hkl := hks k (List.mem_cons_self ..)
    split
    · rename_i hc
      obtain ⟨i1, i2⟩ := Fz.bf rm a long ks l g h hd (fun q hq => hks q (List.mem_cons_of_mem _ hq)) hn.2
      refine ⟨i1, fun ho q hq => ⟨(i2 ho q hq).1, fun hm => ?_⟩⟩
      rcases List.mem_cons.1 hm with rfl | hm
      · exact hc
      · exact (i2 ho q hq).2 hm
    · have hcp := h.cp rm hkl
      split
      · rename_i he
        have e := pucp_l he
        have hdn : (pucp bits L nm rm l g k).l.Nodup := by rw [e]; exact hd.erase _
        obtain ⟨i1, i2⟩ := Fz.bf rm a long ks _ _ hcp hdn (fun q hq => by
          rw [e]
          exact (hd.mem_erase_iff).2 ⟨fun e => hn.1 (e ▸ hq), hks q (List.mem_cons_of_mem _ hq)⟩) hn.2
        refine ⟨i1, fun ho q hq => ?_⟩
        obtain ⟨j1, j2⟩ := i2 ho q hq
        rw [e] at j1
        obtain ⟨j3, j4⟩ := (hd.mem_erase_iff).1 j1
        refine ⟨j4, fun hm => ?_⟩
        rcases List.mem_cons.1 hm with rfl | hm
        · exact absurd rfl j3
        · exact j2 hm
      · rename_i he
        exact ⟨hcp, fun ho => by rw [pucp_err he] at ho; cases ho⟩
theorem step_len {rm : Int} {done : Bool} (h : (pustep bits L nm rm l g false done).over = false) : (pustep bits L nm rm l g false done).l.length + 1 = l.length := by
  unfold pustep at h ⊢
  rw [if_neg (by decide)] at h ⊢
  split at h
  · cases h
  · rename_i hl
    rw [if_neg hl]
    have hm := (mnN_spec hl).2.1
    by_cases he : (pucp bits L nm rm l g (mnN l)).e = 0
    · show (pucp bits L nm rm l g (mnN l)).l.length + 1 = _
      rw [pucp_l he, List.length_erase_of_mem hm]
      have := List.length_pos_of_mem hm
      omega
    · rw [show (PS.mk false (pucp bits L nm rm l g (mnN l)).e (pucp bits L nm rm l g (mnN l)).l (pucp bits L nm rm l g (mnN l)).g (pucp bits L nm rm l g (mnN l)).over done).over = (pucp bits L nm rm l g (mnN l)).over from rfl, pucp_err he] at h
      cases h
/-- Before, and the call that it is ahead of. -/
theorem Fz.wr {n0 : Nat} {over done : Bool} (hJ : PJ bits room L nm n0 l g over done) (h : Fz bits L nm W l g) (rm : Int) (o : Cop) (t : List UInt8) :
    Fz bits (doW bits L t (cQ o)).L nm W (pubfx bits L nm rm (qA (cQ o)) (long17 o) l g over).l (pubfx bits L nm rm (qA (cQ o)) (long17 o) l g over).g := by
  have hlm : Lm L t (doW bits L t (cQ o)).L := doW_lm hJ.cs _ _
  have hkeep : ∀ k, k < szOf L nm → (long17 o < 1 ∨ apt bits k (qA (cQ o)) (long17 o)) → clC bits (doW bits L t (cQ o)).L nm (k : Int) = clC bits L nm (k : Int) := fun k hk hf => by
    obtain ⟨d, hd⟩ := hJ.get
    obtain ⟨d', hd'⟩ := (hJ.toPI.lm hlm).get
    have e1 : szOf L nm = d.im.t.length := by unfold szOf; rw [hd]
    have e2 : szOf (doW bits L t (cQ o)).L nm = d'.im.t.length := by unfold szOf; rw [hd']
    have e3 := (hlm.sz nm).1
    rw [clC_eq17 hd (by omega), clC_eq17 hd' (by omega)]
    exact doW_keep hJ.cs (cQ o) hf nm
  cases over with
  | true =>
    have e : pubfx bits L nm rm (qA (cQ o)) (long17 o) l g true = ⟨0, l, g, true⟩ := if_pos rfl
    rw [e, hJ.ol rfl]
    exact ⟨h.1, fun q hq => by cases hq⟩
  | false =>
    by_cases h1 : long17 o < 1
    · have e : pubfx bits L nm rm (qA (cQ o)) (long17 o) l g false = ⟨0, l, g, false⟩ := (if_neg (by decide)).trans (if_pos h1)
      rw [e]
      exact ⟨h.1, fun q hq => (hkeep q (hJ.lt q hq) (.inl h1)).trans (h.2 q hq)⟩
    · have e : pubfx bits L nm rm (qA (cQ o)) (long17 o) l g false = pubf bits L nm rm (qA (cQ o)) (long17 o) (srtN l) l g := (if_neg (by decide)).trans (if_neg h1)
      have hJ2 := hJ.bfx rm (qA (cQ o)) (long17 o)
      rw [e] at hJ2 ⊢
      obtain ⟨i1, i2⟩ := Fz.bf rm (qA (cQ o)) (long17 o) (srtN l) l g h hJ.nd (fun k hk => (srtN_perm l).mem_iff.1 hk) ((srtN_perm l).nodup_iff.2 hJ.nd)
      refine ⟨i1.1, fun q hq => ?_⟩
      have ho : (pubf bits L nm rm (qA (cQ o)) (long17 o) (srtN l) l g).over = false := by
        cases ho : (pubf bits L nm rm (qA (cQ o)) (long17 o) (srtN l) l g).over with
        | false => rfl
        | true => rw [hJ2.ol ho] at hq; cases hq
      obtain ⟨j1, j2⟩ := i2 ho q hq
      exact (hkeep q (hJ.lt q j1) (.inr (j2 ((srtN_perm l).mem_iff.2 j1)))).trans (i1.2 q hq)
end
structure PfR (z : Nat) (W : Nat → List UInt8) (ps : List (El uPiec)) : Prop where
  at_ : ∀ (i : Nat) (h : i < ps.length), ∃ k : Nat, k < z ∧ ps[i] = @Prod.mk Int (List UInt8) (k : Int) (W k)
theorem pfR_of {L : List Dsk} {nm : List UInt8} {n0 z : Nat} {W : Nat → List UInt8} {l : List Nat} {g : List (Nat × List UInt8)} {over done : Bool} (h : PJ 1 40 L nm n0 l g over done) (hF : Fz 1 L nm W l g) (hz : szOf L nm = z) (rm : Int) :
    ∃ ps q, Fn Tryz.prog 17 [vP 2001] (psB L nm (z : Nat) rm l g over done) [] (.tup [.one (.d (.lst uPiec ps)), .one (.d (.int .i64 q)), .one (.d (.bool done))]) (psB L nm (z : Nat) rm l g over done) ∧ ps.length ≤ 256 ∧ PfR z W ps := by
  cases done with
  | true =>
    have hlen := pcs_len g
    have hgl := h.gl
    refine ⟨pcsL g, (z : Nat), h.resFn (z : Nat) rm over, by omega, ⟨fun i hi => ?_⟩⟩
    obtain ⟨p, hp, e⟩ := pcs_in hi
    refine ⟨p.1, hz ▸ (h.gt p hp).1, ?_⟩
    rw [e, hF.1 p hp]
  | false => exact ⟨[], 0, pures_no _ _ L nm (z : Nat) rm l g over, Nat.zero_le _, ⟨fun i hi => absurd hi (Nat.not_lt_zero i)⟩⟩
@[reducible] def pfK (was : List UInt8) (m : List Kop) (k : Nat) : KL := [(4, vP 4), (7, vP 1001), (8, vP 2001), (11, vL .u8 was), (50, vL uKo m), (51, vI (m.length : Nat)), (52, vI (k : Nat))]
@[reducible] def pfK1 (was : List UInt8) (m : List Kop) (k : Nat) : KL := [(4, vP 4), (7, vP 1001), (8, vP 2001), (11, vL .u8 was), (50, vL uKo m), (51, vI (m.length : Nat)), (52, vI (k : Nat)), (14, vP 14)]
@[reducible] def pfB (L : List Dsk) (nm : List UInt8) (al : Bool) (gr z rm : Int) (ds : List Ext3) (l : List Nat) (g : List (Nat × List UInt8)) (over done : Bool) : BL := psB L nm z rm l g over done ++ [(4, .cells (steL nm al gr rm ds))]
@[reducible] def pfB1 (L : List Dsk) (nm : List UInt8) (al : Bool) (gr z rm : Int) (ds : List Ext3) (l : List Nat) (g : List (Nat × List UInt8)) (over done : Bool) (o : Kop) : BL := psB L nm z rm l g over done ++ [(4, .cells (steL nm al gr rm ds)), (14, .cells (kopL o))]
@[reducible] def pfK2 (was : List UInt8) (n k : Nat) : KL := [(8, vP 2001), (11, vL .u8 was), (86, vI (n : Nat)), (87, vI (k : Nat))]
@[reducible] def pfK4 (was : List UInt8) (ps : List (El uPiec)) (i : Nat) : KL := [(11, vL .u8 was), (18, vI 32), (105, vL uPiec ps), (106, vI (ps.length : Nat)), (107, vI (i : Nat)), (20, vP 20)]
@[reducible] def pfK3 (was : List UInt8) (ps : List (El uPiec)) (i : Nat) : KL := [(11, vL .u8 was), (18, vI 32), (105, vL uPiec ps), (106, vI (ps.length : Nat)), (107, vI (i : Nat))]
set_option maxHeartbeats 2000000 in
theorem pushFrozen_fn (l : List Cop) (nm : List UInt8) (al : Bool) (gr rm : Int) (ds : List Ext3) (m : List Kop) (hl : l.length ≤ 1073741824) (ht : (l.map cTot).sum ≤ 1073741824) (hl2 : m.length ≤ 1073741824) (ht2 : (m.map kTot).sum ≤ 1073741824) (hrg : rngK m) :
    Fn Tryz.prog 7 [vL uC l, steV nm al gr rm ds, vL uKo m] [] [] (vB true) [] := by
  have hfn := few17_fn l m hl ht hl2 ht2
  refine Fn.of tblOK [3,6,7,12,13,14,15,17,19,21,23,28,31] _ _ _ _ _ Tryz.func7 rfl rfl (by kernel_rfl) (by kernel_rfl) rfl (drawOK tblOK) rfl ?_
  refine ⟨rfl, ?_⟩
  refine ⟨_, _, _, _, hfn, trivial, rfl, ?_⟩
  refine ⟨fun _ => ?_, fun hf => ?_⟩
  · refine ⟨_, _, _, _, alive17_fn, trivial, rfl, ?_⟩
    exact ⟨_, _, _, Le.refl _ _, rfl, rfl, trivial, rfl⟩
  have hfew : fewK l m = true := by
    have hf : (!fewK l m) = false := hf
    simpa using hf
  obtain ⟨hll, hob, hom⟩ := fewK_get hfew
  have hbg := begun_fn l nm al gr rm ds hob (by omega)
  show TrQ _ _ _ _ _ _ _
  refine TrQ.le (Le.sub (K' := [(0, vL uC l), (2, vL uKo m), (4, vP 4)]) (B' := [(4, .cells (steL nm al gr rm ds))]) ⟨rfl, rfl, rfl, trivial⟩ ⟨rfl, trivial⟩) ?_
  refine TrQ.regionX tblOK (by kernel_rfl) ?_
  refine ⟨_, _, _, fun g => _, fun g => _, hbg, trivial, rfl, bg_out, fun g => ?_⟩
  obtain ⟨⟨L, ok, l0⟩, hx⟩ := g
  cases ok with
  | false =>
    refine ⟨fun _ => ?_, fun h => absurd h (by decide)⟩
    refine ⟨_, _, _, _, alive17_fn, trivial, rfl, ?_⟩
    exact ⟨_, _, _, Le.refl _ _, rfl, rfl, trivial, rfl⟩
  | true =>
    have hx := hx rfl
    have hP : PI 1 40 L nm l0 [] := PI.beg hx
    have hJ := PJ.beg hP
    obtain ⟨d, hd⟩ := hP.get
    have hC := hP.cs
    have hLm := hC.toChN.M (dk_get hd).1
    have htl := (hC.ims d (dk_get hd).1).1.tl
    have es1 := shl1 d.im.t.length
    have hze : szOf L nm = d.im.t.length := by unfold szOf; rw [hd]
    have m1 : (0 : Int) ≤ ((d.im.t.length : Nat) : Int) ∧ (0 : Int) ≤ (1 : Int) ∧ (1 : Int) ≤ 64 := by omega
    have m2 : (-9223372036854775808 : Int) ≤ ((d.im.t.length : Nat) : Int) * ((2 ^ (1 : Int).toNat : Nat) : Int) ∧ ((d.im.t.length : Nat) : Int) * ((2 ^ (1 : Int).toNat : Nat) : Int) ≤ 9223372036854775807 := by rw [es1]; omega
    have him := image_fn ((1 : Nat) : Int) ((40 : Nat) : Int) L hC.toChN nm d hd
    have hrd := chread_fn hC nm 0 (((d.im.t.length : Nat) : Int) * ((2 ^ (1 : Int).toNat : Nat) : Int))
    obtain ⟨was, hwas, hwl, hF⟩ : ∃ was : List UInt8, (rdC 1 L nm 0 (((d.im.t.length : Nat) : Int) * ((2 ^ (1 : Int).toNat : Nat) : Int))).1 = was ∧ was.length = 32 * szOf L nm ∧ Fz 1 L nm (fun k => (was.take (k * 32 + 32)).drop (k * 32)) l0 [] := by
      have hcl : ∀ k, k < d.im.t.length → (cseen 1 L nm (dpt L nm) k).length = 32 := fun k _ => cseen_len hC.toChOK hd (hC.dep nm).1 k
      obtain ⟨c1, c2⟩ := crd_clus (L := L) (nm := nm) (kk := dpt L nm) d.im.t.length hcl
      rw [es1, rdC_ok hC hd (by rw [iall_one hC hd]; omega), show d.im.t.length * 2 = 2 * d.im.t.length by omega]
      refine ⟨_, rfl, by rw [hze]; exact c1, fun p hp => (by cases hp), fun k hk => ?_⟩
      have hk2 : k < d.im.t.length := by have := hP.lt k hk; omega
      show clC 1 L nm (k : Int) = ((crdK 1 L nm (dpt L nm) 0 (2 * d.im.t.length)).take (k * 32 + 32)).drop (k * 32)
      rw [c2 k hk2, clC_eq17 hd hk2]
    generalize hWd : (fun k : Nat => (was.take (k * 32 + 32)).drop (k * 32)) = W at hF
    refine ⟨fun h => absurd h (by decide), fun _ => ?_⟩
    rw [← hze] at m1 m2 hrd hwas
    have hsz := isize_fn d.im
    rw [← hze] at hsz
    have hz256 := hP.sz
    clear hze es1
    generalize hz : szOf L nm = z at *
    generalize l0.length = n0 at *
    generalize (rdC 1 L nm 0 (((z : Nat) : Int) * ((2 ^ (1 : Int).toNat : Nat) : Int))).2 = we at hrd
    rw [hwas] at hrd
    clear hwas
    show TrQ _ _ _ _ _ _ _
    refine TrQ.go tblOK (drawOK tblOK) [7,12,13,14,15,17,19,21,23,28,31] (by kernel_rfl) (Le.sub (K' := [(2, vL uKo m), (4, vP 4), (7, vP 1001), (8, vP 2001)]) (B' := pfB L nm al gr (z : Nat) rm ds l0 [] false false) ⟨rfl, rfl, rfl, rfl, trivial⟩ ⟨rfl, rfl, rfl, rfl, by rw [← hz]; rfl, rfl, rfl, rfl, trivial⟩) ?_
    refine ⟨_, _, _, _, him, ⟨rfl, rfl, rfl, rfl, trivial⟩, rfl, ?_⟩
    show TrQ _ _ _ _ _ _ _
    refine TrQ.go tblOK (drawOK tblOK) [12,13,14,15,17,19,21,23,28,31] (by kernel_rfl) (Le.sub (K' := [(2, vL uKo m), (4, vP 4), (7, vP 1001), (8, vP 2001), (10, vAd d.am)]) (B' := pfB L nm al gr (z : Nat) rm ds l0 [] false false) ⟨rfl, rfl, rfl, rfl, rfl, trivial⟩ ⟨rfl, rfl, rfl, rfl, rfl, rfl, rfl, rfl, trivial⟩) ?_
    refine ⟨_, _, _, _, imFn hsz hLm rfl rfl rfl rfl, ⟨rfl, trivial⟩, rfl, ?_⟩
    refine ⟨m1, m2, ?_⟩
    refine ⟨_, _, _, _, hrd, ⟨rfl, rfl, rfl, rfl, trivial⟩, rfl, ?_⟩
    refine ⟨indep_of (by kernel_rfl), ?_⟩
    show TrQ _ _ _ _ _ _ _
    refine TrQ.loop tblOK (drawOK tblOK) [12,13,14,15,17,19,21,23,28,31] (by kernel_rfl) (X := Nat × List Dsk × List Nat × List (Nat × List UInt8) × Bool × Bool) (fun x => pfK was m x.1) (fun x => pfB x.2.1 nm al gr (z : Nat) rm ds x.2.2.1 x.2.2.2.1 x.2.2.2.2.1 x.2.2.2.2.2) (fun x => x.1 ≤ m.length ∧ PJ 1 40 x.2.1 nm n0 x.2.2.1 x.2.2.2.1 x.2.2.2.2.1 x.2.2.2.2.2 ∧ szOf x.2.1 nm = z ∧ Fz 1 x.2.1 nm W x.2.2.1 x.2.2.2.1) (fun x => m.length - x.1) (0, L, l0, [], false, false) ⟨Nat.zero_le _, hJ, hz, hF⟩ ?_ ?_
    · exact Le.sub ⟨rfl, rfl, rfl, rfl, rfl, rfl, rfl, trivial⟩ ⟨rfl, rfl, rfl, rfl, rfl, rfl, rfl, rfl, trivial⟩
    rintro ⟨k, L2, l2, g2, over, done⟩ ⟨hk, hJ2, hz2, hF2⟩
    have hk : k ≤ m.length := hk
    have hJ2 : PJ 1 40 L2 nm n0 l2 g2 over done := hJ2
    have hz2 : szOf L2 nm = z := hz2
    have hF2 : Fz 1 L2 nm W l2 g2 := hF2
    have hst := hJ2.stepFn (z : Nat) rm over done
    have hkp := hJ2.step rm
    have hkF := hF2.step rm over done
    refine ⟨fun hc => ?_, fun hc => ?_⟩
    · have hc : decide ((k : Int) < ((m.length : Nat) : Int)) = true := hc
      have hk1 : k < m.length := by have := of_decide_eq_true hc; omega
      have hmem := List.getElem_mem hk1
      have hO := hom _ hmem
      have hR := hrg _ hmem
      have hget := lgAt (n := k) hk1
      generalize m[k] = o at *
      have hqb : (qB (cQ (kO o))).length ≤ 1000000 := by unfold kTot at hO; omega
      have hto : (qB (cQ (kO o))).length + (cNm (kO o)).length ≤ 1000000 := by unfold kTot at hO; omega
      have hlo := long17_fn (kO o) hqb
      have hbf := hJ2.bfFn (z : Nat) rm over done (qA (cQ (kO o))) (long17 (kO o)) (long17_le hR hqb)
      have hkb := hJ2.bfx rm (qA (cQ (kO o))) (long17 (kO o))
      have hFb := fun t => hF2.wr hJ2 rm (kO o) t
      refine ⟨by omega, o, hget, ?_⟩
      refine ⟨rfl, ?_⟩
      refine ⟨fun c0 => ?_, fun c0 => ?_⟩
      · have c0 : kKd o = 0 := of_decide_eq_true c0
        show TrQ _ _ _ _ _ _ _
        refine TrQ.go tblOK (drawOK tblOK) [13,14,15,17,19,21,23,28,31] (by kernel_rfl) (Le.sub (K' := pfK1 was m k) (B' := pfB1 L2 nm al gr (z : Nat) rm ds l2 g2 over done o) ⟨rfl, rfl, rfl, rfl, rfl, rfl, rfl, rfl, trivial⟩ ⟨rfl, rfl, rfl, rfl, rfl, rfl, rfl, rfl, rfl, trivial⟩) ?_
        refine ⟨_, _, _, _, hst, ⟨rfl, rfl, rfl, rfl, rfl, rfl, rfl, trivial⟩, rfl, ?_⟩
        generalize pustep 1 L2 nm rm l2 g2 over done = R at *
        show TrQ _ _ _ _ _ _ _
        refine TrQ.go tblOK (drawOK tblOK) [14,15,17,19,21,23,28,31] (by kernel_rfl) (Le.sub (K' := pfK1 was m k) (B' := pfB1 L2 nm al gr (z : Nat) rm ds R.l R.g R.over R.done o) ⟨rfl, rfl, rfl, rfl, rfl, rfl, rfl, rfl, trivial⟩ ⟨rfl, rfl, rfl, rfl, rfl, rfl, rfl, rfl, rfl, trivial⟩) ?_
        refine ⟨fun c1 => absurd (show kKd o = 1 from of_decide_eq_true c1) (by omega), fun _ => ?_⟩
        exact ⟨by omega, (k + 1, L2, R.l, R.g, R.over, R.done), ⟨hk1, hkp, hz2, hkF⟩, by show m.length - (k + 1) < m.length - k; omega, Le.sub ⟨rfl, rfl, rfl, rfl, rfl, rfl, rfl, trivial⟩ ⟨rfl, rfl, rfl, rfl, rfl, rfl, rfl, rfl, trivial⟩⟩
      show TrQ _ _ _ _ _ _ _
      refine TrQ.go tblOK (drawOK tblOK) [14,15,17,19,21,23,28,31] (by kernel_rfl) (Le.sub (K' := pfK1 was m k) (B' := pfB1 L2 nm al gr (z : Nat) rm ds l2 g2 over done o) ⟨rfl, rfl, rfl, rfl, rfl, rfl, rfl, rfl, trivial⟩ ⟨rfl, rfl, rfl, rfl, rfl, rfl, rfl, rfl, rfl, trivial⟩) ?_
      refine ⟨fun c1 => ?_, fun c1 => ?_⟩
      · refine ⟨fun c3 => ?_, fun c3 => ?_⟩
        · have c3 : cK (kO o) = 3 := of_decide_eq_true c3
          show TrQ _ _ _ _ _ _ _
          refine TrQ.go tblOK (drawOK tblOK) [15,17,19,21,23,28,31] (by kernel_rfl) (Le.sub (K' := pfK1 was m k) (B' := pfB1 L2 nm al gr (z : Nat) rm ds l2 g2 over done o) ⟨rfl, rfl, rfl, rfl, rfl, rfl, rfl, rfl, trivial⟩ ⟨rfl, rfl, rfl, rfl, rfl, rfl, rfl, rfl, rfl, trivial⟩) ?_
          refine ⟨_, _, _, _, hlo, trivial, rfl, ?_⟩
          refine ⟨_, _, _, _, hbf, ⟨rfl, rfl, rfl, rfl, rfl, rfl, rfl, trivial⟩, rfl, ?_⟩
          refine ⟨indep_of (by kernel_rfl), ?_⟩
          have hds := does17w_fn hJ2.cs (kO o) hto
          have hcs := hJ2.cs
          have hFb := hFb (cNm (kO o))
          generalize pubfx 1 L2 nm rm (qA (cQ (kO o))) (long17 (kO o)) l2 g2 over = R at *
          show TrQ _ _ _ _ _ _ _
          refine TrQ.le (Le.sub (K' := pfK1 was m k) (B' := pfB1 L2 nm al gr (z : Nat) rm ds R.l R.g R.over done o) ⟨rfl, rfl, rfl, rfl, rfl, rfl, rfl, rfl, trivial⟩ ⟨rfl, rfl, rfl, rfl, rfl, rfl, rfl, rfl, rfl, trivial⟩) ?_
          refine TrQ.regionX tblOK (by kernel_rfl) ?_
          refine ⟨_, _, _, fun g => _, fun g => _, hds, ⟨rfl, rfl, rfl, rfl, trivial⟩, rfl, fun _ => rfl, fun g => ?_⟩
          have hlm : Lm L2 (cNm (kO o)) (doD 1 40 L2 (kO o) g.1).L := by rw [doD3 c3]; exact doW_lm hcs _ _
          have hFd : Fz 1 (doD 1 40 L2 (kO o) g.1).L nm W R.l R.g := by rw [doD3 c3]; exact hFb
          exact ⟨by omega, (k + 1, (doD 1 40 L2 (kO o) g.1).L, R.l, R.g, R.over, done), ⟨hk1, hkb.lm hlm, (hlm.sz nm).1.trans hz2, hFd⟩, by show m.length - (k + 1) < m.length - k; omega, Le.sub ⟨rfl, rfl, rfl, rfl, rfl, rfl, rfl, trivial⟩ ⟨rfl, rfl, rfl, rfl, rfl, rfl, rfl, rfl, trivial⟩⟩
        · exact ⟨by omega, (k + 1, L2, l2, g2, over, done), ⟨hk1, hJ2, hz2, hF2⟩, by show m.length - (k + 1) < m.length - k; omega, Le.sub ⟨rfl, rfl, rfl, rfl, rfl, rfl, rfl, trivial⟩ ⟨rfl, rfl, rfl, rfl, rfl, rfl, rfl, rfl, trivial⟩⟩
      · exact ⟨by omega, (k + 1, L2, l2, g2, over, done), ⟨hk1, hJ2, hz2, hF2⟩, by show m.length - (k + 1) < m.length - k; omega, Le.sub ⟨rfl, rfl, rfl, rfl, rfl, rfl, rfl, trivial⟩ ⟨rfl, rfl, rfl, rfl, rfl, rfl, rfl, rfl, trivial⟩⟩
    · clear hst hkp hkF
      have hlf := puleft_fn ((1 : Nat) : Int) ((40 : Nat) : Int) L2 nm (z : Nat) rm l2 g2 over done
      have hll2 := hJ2.ll
      have mn : (-9223372036854775808 : Int) ≤ ((l2.length : Nat) : Int) + 1 ∧ ((l2.length : Nat) : Int) + 1 ≤ 9223372036854775807 := by omega
      generalize hnn : l2.length = nn at *
      show TrQ _ _ _ _ _ _ _
      refine TrQ.go tblOK (drawOK tblOK) [19,21,23,28,31] (by kernel_rfl) (Le.refl _ _) ?_
      refine ⟨_, _, _, _, hlf, ⟨rfl, rfl, rfl, rfl, rfl, rfl, rfl, trivial⟩, rfl, ?_⟩
      refine ⟨mn, ?_⟩
      show TrQ _ _ _ _ _ _ _
      refine TrQ.loop tblOK (drawOK tblOK) [19,21,23,28,31] (by kernel_rfl) (X := Nat × List Nat × List (Nat × List UInt8) × Bool × Bool) (fun x => pfK2 was (nn + 1) x.1) (fun x => psB L2 nm (z : Nat) rm x.2.1 x.2.2.1 x.2.2.2.1 x.2.2.2.2) (fun x => x.1 ≤ nn + 1 ∧ PJ 1 40 L2 nm n0 x.2.1 x.2.2.1 x.2.2.2.1 x.2.2.2.2 ∧ Fz 1 L2 nm W x.2.1 x.2.2.1 ∧ (x.2.2.2.1 = false → x.2.1.length + x.1 = nn)) (fun x => nn + 1 - x.1) (0, l2, g2, over, done) ⟨Nat.zero_le _, hJ2, hF2, fun _ => hnn⟩ ?_ ?_
      · exact Le.sub ⟨rfl, rfl, rfl, rfl, trivial⟩ ⟨rfl, rfl, rfl, rfl, rfl, rfl, rfl, trivial⟩
      rintro ⟨j, l3, g3, over3, done3⟩ ⟨hj, hJ3, hF3, hn3⟩
      have hj : j ≤ nn + 1 := hj
      have hJ3 : PJ 1 40 L2 nm n0 l3 g3 over3 done3 := hJ3
      have hF3 : Fz 1 L2 nm W l3 g3 := hF3
      have hn3 : over3 = false → l3.length + j = nn := hn3
      have hst := hJ3.stepFn (z : Nat) rm over3 done3
      have hkp := hJ3.step rm
      have hkF := hF3.step rm over3 done3
      have hkn : (pustep 1 L2 nm rm l3 g3 over3 done3).over = false → (pustep 1 L2 nm rm l3 g3 over3 done3).l.length + (j + 1) = nn := fun h => by
        cases over3 with
        | true => cases h
        | false => have h1 := step_len h; have h2 := hn3 rfl; omega
      refine ⟨fun hc => ?_, fun hc => ?_⟩
      · have hc : decide ((j : Int) < ((nn + 1 : Nat) : Int)) = true := hc
        have hj1 : j < nn + 1 := by have := of_decide_eq_true hc; omega
        show TrQ _ _ _ _ _ _ _
        refine TrQ.go tblOK (drawOK tblOK) [21,23,28,31] (by kernel_rfl) (Le.refl _ _) ?_
        refine ⟨_, _, _, _, hst, ⟨rfl, rfl, rfl, rfl, rfl, rfl, rfl, trivial⟩, rfl, ?_⟩
        exact ⟨by omega, (j + 1, _, _, _, _), ⟨hj1, hkp, hkF, hkn⟩, by show nn + 1 - (j + 1) < nn + 1 - j; omega, Le.sub ⟨rfl, rfl, rfl, rfl, trivial⟩ ⟨rfl, rfl, rfl, rfl, rfl, rfl, rfl, trivial⟩⟩
      · have hc : decide ((j : Int) < ((nn + 1 : Nat) : Int)) = false := hc
        have hj1 : ¬ j < nn + 1 := by have := of_decide_eq_false hc; omega
        have ho : over3 = true := by
          cases over3 with
          | true => rfl
          | false => have := hn3 rfl; omega
        subst ho
        obtain ⟨ps, q, hres, hp256, hR⟩ := pfR_of hJ3 hF3 hz2 rm
        have hov := puover_fn ((1 : Nat) : Int) ((40 : Nat) : Int) L2 nm (z : Nat) rm l3 g3 true done3
        show TrQ _ _ _ _ _ _ _
        refine TrQ.go tblOK (drawOK tblOK) [23,28,31] (by kernel_rfl) (Le.refl _ _) ?_
        refine ⟨_, _, _, _, hres, ⟨rfl, rfl, rfl, rfl, rfl, rfl, rfl, trivial⟩, rfl, ?_⟩
        refine ⟨fun _ => ?_, fun _ => ?_⟩
        · show TrQ _ _ _ _ _ _ _
          refine TrQ.go tblOK (drawOK tblOK) [] (by kernel_rfl) (Le.sub (K' := [(8, vP 2001)]) (B' := psB L2 nm (z : Nat) rm l3 g3 true done3) ⟨rfl, trivial⟩ ⟨rfl, rfl, rfl, rfl, rfl, rfl, rfl, trivial⟩) ?_
          refine ⟨_, _, _, _, alive17_fn, trivial, rfl, ?_⟩
          refine ⟨fun _ => ?_, fun h => absurd h (by decide)⟩
          refine ⟨_, _, _, _, hov, ⟨rfl, rfl, rfl, rfl, rfl, rfl, rfl, trivial⟩, rfl, ?_⟩
          exact ⟨_, _, _, Le.refl _ _, rfl, rfl, trivial, rfl⟩
        show TrQ _ _ _ _ _ _ _
        refine TrQ.loop tblOK (drawOK tblOK) [28,31] (by kernel_rfl) (X := Nat) (fun i => pfK3 was ps i) (fun _ => []) (fun i => i ≤ ps.length) (fun i => ps.length - i) 0 (Nat.zero_le _) ?_ ?_
        · exact Le.sub ⟨rfl, rfl, rfl, rfl, rfl, trivial⟩ trivial
        intro i hi
        have hi : i ≤ ps.length := hi
        refine ⟨fun hc => ?_, fun hc => ?_⟩
        · have hc : decide ((i : Int) < ((ps.length : Nat) : Int)) = true := hc
          have hi1 : i < ps.length := by have := of_decide_eq_true hc; omega
          obtain ⟨kk, hkz, hpe⟩ := hR.at_ i hi1
          have hget := lgAt (n := i) hi1
          rw [hpe] at hget
          have hWk : W kk = (was.take (kk * 32 + 32)).drop (kk * 32) := by rw [← hWd]
          refine ⟨by omega, _, hget, ?_⟩
          refine ⟨rfl, ?_⟩
          show TrQ _ _ _ _ _ _ _
          have b1 : (-9223372036854775808 : Int) ≤ (kk : Int) + 1 ∧ (kk : Int) + 1 ≤ 9223372036854775807 := by omega
          have b2 : (-9223372036854775808 : Int) ≤ ((kk : Int) + 1) * 32 ∧ ((kk : Int) + 1) * 32 ≤ 9223372036854775807 := by omega
          have b3 : (-9223372036854775808 : Int) ≤ (kk : Int) * 32 ∧ (kk : Int) * 32 ≤ 9223372036854775807 := by omega
          refine TrQ.go tblOK (drawOK tblOK) [31] (by kernel_rfl) (Le.sub (K' := pfK4 was ps i) (B' := [(20, .cells [.d (.int .i64 (kk : Int)), .d (.lst .u8 (W kk))])]) ⟨rfl, rfl, rfl, rfl, rfl, rfl, trivial⟩ ⟨rfl, trivial⟩) ?_
          refine ⟨fun c => absurd (of_decide_eq_true (show decide ((kk : Int) < 0) = true from c)) (by omega), fun _ => ?_⟩
          refine ⟨b1, b2, ?_⟩
          refine ⟨fun c => absurd (of_decide_eq_true (show decide (((was.length : Nat) : Int) < ((kk : Int) + 1) * 32) = true from c)) (by omega), fun _ => ?_⟩
          refine ⟨b3, b1, b2, ?_⟩
          have b4 : 0 ≤ (kk : Int) * 32 ∧ (kk : Int) * 32 ≤ ((kk : Int) + 1) * 32 ∧ ((kk : Int) + 1) * 32 ≤ ((was.length : Nat) : Int) := by omega
          refine ⟨b4, ?_⟩
          refine ⟨indep_of (by kernel_rfl), ?_⟩
          refine ⟨fun c => ?_, fun _ => ?_⟩
          · exfalso
            have c : (!decide (W kk = List.drop ((kk : Int) * 32).toNat (List.take (((kk : Int) + 1) * 32).toNat was))) = true := c
            rw [show ((kk : Int) * 32).toNat = kk * 32 by omega, show (((kk : Int) + 1) * 32).toNat = kk * 32 + 32 by omega, decide_eq_true hWk] at c
            cases c
          exact ⟨by omega, i + 1, hi1, by omega, Le.sub ⟨rfl, rfl, rfl, rfl, rfl, trivial⟩ trivial⟩
        · show TrQ _ _ _ _ _ _ _
          refine TrQ.go tblOK (drawOK tblOK) [] (by kernel_rfl) (Le.refl _ _) ?_
          refine ⟨_, _, _, _, alive17_fn, trivial, rfl, ?_⟩
          exact ⟨_, _, _, Le.refl _ _, rfl, rfl, trivial, rfl⟩
end Go.Proofs.YtbcngglcaeehbaaGreat
