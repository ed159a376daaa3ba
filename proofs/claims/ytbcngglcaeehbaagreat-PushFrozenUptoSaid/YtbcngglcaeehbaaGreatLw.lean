/-
  Law 17: how long a call on a disk is; the bulk and the numbers of scripts.
-/
import Derived.Test.YtbcngglcaeehbaaGreatLu17
import Derived.Test.YtbcngglcaeehbaaGreatRd
set_option linter.unusedVariables false
set_option linter.unusedSimpArgs false
set_option maxRecDepth 10000
namespace Go.Proofs.YtbcngglcaeehbaaGreat
open Go.RowKit Go.Proofs
def long17 (o : Cop) : Int := if qK (cQ o) = 1 then (((qB (cQ o)).length : Nat) : Int) / 16 else qL (cQ o)
theorem long17_fn (o : Cop) (hb : (qB (cQ o)).length ≤ 1000000) : Fn Tryz.prog 13 [copV o] [] [] (vI (long17 o)) [] := by
  have mq : (-9223372036854775808 : Int) ≤ (((qB (cQ o)).length : Nat) : Int) / 16 ∧ (((qB (cQ o)).length : Nat) : Int) / 16 ≤ 9223372036854775807 := by omega
  refine Fn.of tblOK [] _ _ _ _ _ Tryz.func13 rfl rfl (by kernel_rfl) (by kernel_rfl) rfl (drawOK tblOK) rfl ?_
  refine ⟨rfl, ?_⟩
  refine ⟨fun c => ?_, fun c => ?_⟩
  · have c : qK (cQ o) = 1 := of_decide_eq_true c
    have e : long17 o = (((qB (cQ o)).length : Nat) : Int) / 16 := if_pos c
    rw [e]
    refine ⟨⟨by omega, by omega⟩, mq, ?_⟩
    exact ⟨_, _, _, Le.refl _ _, rfl, rfl, trivial, rfl⟩
  · have c : ¬ qK (cQ o) = 1 := of_decide_eq_false c
    have e : long17 o = qL (cQ o) := if_neg c
    rw [e]
    exact ⟨_, _, _, Le.refl _ _, rfl, rfl, trivial, rfl⟩
theorem bulkk_ops : ∀ l : List Kop, 1 + l.length + (l.map kTot).sum ≤ bulkU (.sl uKo) l
  | [] => Nat.le_refl _
  | o :: l => by
    have h1 := bulkk_ops l
    have e2 : bulkU (.sl uKo) l = 1 + (List.map (bulkU uKo) l).sum := rfl
    have e3 : bulkU uKo o = 1 + bulkU uC (kO o) := rfl
    have e4 := bulkc_op (kO o)
    have e5 : kTot o ≤ cTot (kO o) := by unfold kTot cTot; omega
    show 1 + (l.length + 1) + (kTot o + (l.map kTot).sum) ≤ 1 + (bulkU uKo o + (List.map (bulkU uKo) l).sum)
    omega
/-- No length is more than a number can be. -/
def rngK (m : List Kop) : Prop := ∀ o, o ∈ m → qL (cQ (kO o)) ≤ 9223372036854775807
theorem rngk_ops {m : List Kop} (h : RngU (.sl uKo) m) : rngK m := fun o ho => by
  have h1 : RngU uKo o := h o ho
  have h2 : (Lit.int .i64 (qL (cQ (kO o)))).wf = true := h1.2.2.2.2.2.2.2.1
  have h3 : (decide (IntKind.i64.min ≤ qL (cQ (kO o))) && decide (qL (cQ (kO o)) ≤ IntKind.i64.max)) = true := h2
  simp only [Bool.and_eq_true] at h3
  exact of_decide_eq_true h3.2
theorem long17_le {o : Cop} (h : qL (cQ o) ≤ 9223372036854775807) (hb : (qB (cQ o)).length ≤ 1000000) : long17 o ≤ 9223372036854775807 := by
  unfold long17
  split
  · omega
  · exact h
/-! ### a job, what is counted of it -/
section
variable {bits room : Nat} {L : List Dsk} {nm : List UInt8} {n0 : Nat} {l : List Nat} {g : List (Nat × List UInt8)} {over done : Bool}
structure PJ (bits room : Nat) (L : List Dsk) (nm : List UInt8) (n0 : Nat) (l : List Nat) (g : List (Nat × List UInt8)) (over done : Bool) : Prop extends PI bits room L nm l g where
  od : done = true → over = true
  go : over = false → l.length + g.length = n0
  dn : done = true → g.length = n0
  ol : over = true → l = []
theorem PJ.beg (h : PI bits room L nm l []) : PJ bits room L nm l.length l [] false false := ⟨h, (fun h => by cases h), (fun _ => rfl), (fun h => by cases h), (fun h => by cases h)⟩
theorem PJ.lm {L' : List Dsk} {t : List UInt8} (h : PJ bits room L nm n0 l g over done) (hl : Lm L t L') : PJ bits room L' nm n0 l g over done := ⟨h.toPI.lm hl, h.od, h.go, h.dn, h.ol⟩
theorem cp_cnt (rm : Int) {k : Nat} (hk : k ∈ l) (hc : l.length + g.length = n0) : ((pucp bits L nm rm l g k).over = false → (pucp bits L nm rm l g k).l.length + (pucp bits L nm rm l g k).g.length = n0) ∧ ((pucp bits L nm rm l g k).over = true → (pucp bits L nm rm l g k).l = []) := by
  unfold pucp
  split
  · exact ⟨(fun h => by cases h), fun _ => rfl⟩
  · refine ⟨fun _ => ?_, fun h => by cases h⟩
    show (l.erase k).length + (g ++ [(k, clC bits L nm (k : Int))]).length = n0
    rw [List.length_erase_of_mem hk, List.length_append, List.length_singleton]
    have := List.length_pos_of_mem hk
    omega
theorem PJ.step (h : PJ bits room L nm n0 l g over done) (rm : Int) : PJ bits room L nm n0 (pustep bits L nm rm l g over done).l (pustep bits L nm rm l g over done).g (pustep bits L nm rm l g over done).over (pustep bits L nm rm l g over done).done := by
  have hp := h.toPI.step rm over done
  refine ⟨hp, ?_, ?_, ?_, ?_⟩ <;> clear hp <;> unfold pustep <;> split
  · exact fun _ => rfl
  · split
    · exact fun _ => rfl
    · rename_i ho hl
      intro hd
      exact absurd (h.od hd) ho
  · exact fun e => by cases e
  · split
    · exact fun e => by cases e
    · rename_i ho hl
      exact (cp_cnt rm (mnN_spec hl).2.1 (h.go (by simpa using ho))).1
  · exact h.dn
  · split
    · rename_i ho hl
      intro _
      have := h.go (by simpa using ho)
      rw [hl] at this
      simpa using this
    · rename_i ho hl
      intro hd
      exact absurd (h.od hd) ho
  · rename_i ho
    exact fun _ => h.ol ho
  · split
    · exact fun _ => rfl
    · rename_i ho hl
      exact (cp_cnt rm (mnN_spec hl).2.1 (h.go (by simpa using ho))).2
theorem pucp_err {rm : Int} {k : Nat} (he : ¬ (pucp bits L nm rm l g k).e = 0) : (pucp bits L nm rm l g k).over = true := by
  unfold pucp at he ⊢
  split
  · rfl
  · rename_i c
    rw [if_neg c] at he
    exact absurd rfl he
theorem pucp_l {rm : Int} {k : Nat} (he : (pucp bits L nm rm l g k).e = 0) : (pucp bits L nm rm l g k).l = l.erase k := by
  unfold pucp at he ⊢
  split
  · rename_i c
    rw [if_pos c] at he
    exact absurd he (show ¬ (171 : Int) = 0 by decide)
  · rfl
theorem bf_cnt (rm a long : Int) : ∀ (ks l : List Nat) (g : List (Nat × List UInt8)), l.Nodup → (∀ k, k ∈ ks → k ∈ l) → ks.Nodup → l.length + g.length = n0 →
    ((pubf bits L nm rm a long ks l g).over = false → (pubf bits L nm rm a long ks l g).l.length + (pubf bits L nm rm a long ks l g).g.length = n0) ∧ ((pubf bits L nm rm a long ks l g).over = true → (pubf bits L nm rm a long ks l g).l = [])
  | [], l, g, _, _, _, hc => ⟨fun _ => hc, fun h => by cases h⟩
  | k :: ks, l, g, hd, hks, hn, hc => by
    unfold pubf
    have hn := List.nodup_cons.1 hn
    have hkl := hks k (List.mem_cons_self ..)
    split
    · exact bf_cnt rm a long ks l g hd (fun q hq => hks q (List.mem_cons_of_mem _ hq)) hn.2 hc
    · have hcp := cp_cnt (bits := bits) (L := L) (nm := nm) rm hkl hc
      split
      · rename_i he
        have e := pucp_l he
        have hdn : (pucp bits L nm rm l g k).l.Nodup := by rw [e]; exact hd.erase _
        refine bf_cnt rm a long ks _ _ hdn (fun q hq => ?_) hn.2 (hcp.1 (pucp_ok he).1)
        rw [e]
        exact (hd.mem_erase_iff).2 ⟨fun e => hn.1 (e ▸ hq), hks q (List.mem_cons_of_mem _ hq)⟩
      · exact hcp
theorem PJ.bfx (h : PJ bits room L nm n0 l g over done) (rm a long : Int) : PJ bits room L nm n0 (pubfx bits L nm rm a long l g over).l (pubfx bits L nm rm a long l g over).g (pubfx bits L nm rm a long l g over).over done := by
  have hp := h.toPI.bfx rm a long over
  cases over with
  | true => exact h
  | false =>
    by_cases h1 : long < 1
    · have e : pubfx bits L nm rm a long l g false = ⟨0, l, g, false⟩ := (if_neg (by decide)).trans (if_pos h1)
      rw [e]
      exact h
    · have e : pubfx bits L nm rm a long l g false = pubf bits L nm rm a long (srtN l) l g := (if_neg (by decide)).trans (if_neg h1)
      rw [e] at hp ⊢
      have hd : ¬ done = true := fun e => by have := h.od e; cases this
      have hb := bf_cnt (bits := bits) (L := L) (nm := nm) rm a long (srtN l) l g h.nd (fun k hk => (srtN_perm l).mem_iff.1 hk) ((srtN_perm l).nodup_iff.2 h.nd) (h.go rfl)
      exact ⟨hp, fun e => absurd e hd, hb.1, fun e => absurd e hd, hb.2⟩
theorem doD3 {o : Cop} (hk : cK o = 3) (p : Nat × Nat) : doD bits room L o p = doW bits L (cNm o) (cQ o) := by
  unfold doD
  rw [if_neg (by omega), if_neg (by omega), if_neg (by omega), if_pos hk]
/-! ### what was copied, as told -/
theorem goAt_in {k : Nat} : ∀ {g : List (Nat × List UInt8)}, k ∈ g.map Prod.fst → (k, goAt g (k : Int)) ∈ g
  | [], h => by cases h
  | p :: g, h => by
    have ek : eqKey uI (k : Int) ((p.1 : Nat) : Int) = decide (k = p.1) := eqKey_nat k p.1
    by_cases e : k = p.1
    · have e1 : goAt (p :: g) (k : Int) = p.2 := by
        show ((match eqKey uI (k : Int) ((p.1 : Nat) : Int) with | true => some p.2 | false => mget (ku := uI) (vu := uGo) (gL g) (k : Int)).getD (dflt uGo)) = _
        rw [ek, decide_eq_true e]
        rfl
      rw [e1, e]
      exact List.mem_cons_self ..
    · have e1 : goAt (p :: g) (k : Int) = goAt g (k : Int) := by
        show ((match eqKey uI (k : Int) ((p.1 : Nat) : Int) with | true => some p.2 | false => mget (ku := uI) (vu := uGo) (gL g) (k : Int)).getD (dflt uGo)) = _
        rw [ek, decide_eq_false e]
        rfl
      rw [e1]
      rw [List.map_cons, List.mem_cons] at h
      exact List.mem_cons_of_mem _ (goAt_in (h.resolve_left e))
theorem pcs_in {i : Nat} (h : i < (pcsL g).length) : ∃ p, p ∈ g ∧ (pcsL g)[i] = @Prod.mk Int (List UInt8) ((p.1 : Nat) : Int) p.2 := by
  have hm : (pcsL g)[i] ∈ pcsL g := List.getElem_mem h
  generalize (pcsL g)[i] = x at hm ⊢
  obtain ⟨k, hk, rfl⟩ := List.mem_map.1 hm
  have hk := (sortI_perm _).mem_iff.1 hk
  rw [mkeys_gL] at hk
  obtain ⟨j, hj, rfl⟩ := List.mem_map.1 hk
  exact ⟨_, goAt_in hj, rfl⟩
theorem pcs_rise (hn : (g.map Prod.fst).Nodup) {i : Nat} (h : i + 1 < (pcsL g).length) : @LT.lt Int _ ((pcsL g)[i]'(by omega)).1 ((pcsL g)[i + 1]).1 := by
  have hk : ∀ (j : Nat) (hj : j < (pcsL g).length), @Eq Int ((pcsL g)[j]).1 ((sortI (mkeysI (gL g)))[j]'(by unfold pcsL at hj; rwa [List.length_map] at hj)) := fun j hj => by
    have : (pcsL g)[j] = pcP g ((sortI (mkeysI (gL g)))[j]'(by unfold pcsL at hj; rwa [List.length_map] at hj)) := List.getElem_map _
    rw [this]
    rfl
  rw [hk i (by omega), hk (i + 1) h]
  have hlen : i + 1 < (sortI (mkeysI (gL g))).length := by unfold pcsL at h; rwa [List.length_map] at h
  have hnd : (sortI (mkeysI (gL g))).Nodup := by
    rw [(sortI_perm _).nodup_iff, mkeys_gL]
    exact nodup_map (fun x _ y _ e => by have e : (x : Int) = (y : Int) := e; omega) hn
  have h1 := List.pairwise_iff_getElem.1 (sortI_pw (mkeysI (gL g))) i (i + 1) (by omega) hlen (by omega)
  have h2 := List.pairwise_iff_getElem.1 hnd i (i + 1) (by omega) hlen (by omega)
  have h1 := of_decide_eq_true h1
  omega
end
end Go.Proofs.YtbcngglcaeehbaaGreat
