/-
  Chains: what a disk reads, in plain words.
-/
import Derived.Test.YtolaecebfkdbcaaGreatRw
set_option linter.unusedVariables false
set_option linter.unusedSimpArgs false
set_option maxRecDepth 10000
namespace Go.Proofs.YtolaecebfkdbcaaGreat
open Go.RowKit Go.Proofs
section
variable {bits room : Nat} {L : List Dsk}
theorem down_known (h : CS bits room L) {nm : List UInt8} {k : Nat} (hd : Dn L nm k) (h0 : ∃ d, dk L nm = some d) : ∀ j, j ≤ k → ∃ e, dk L (downTo L j nm) = some e
  | 0, _ => h0
  | j + 1, hj => by
    obtain ⟨e, he⟩ := down_known h hd h0 j (by omega)
    have hat := dn_at hd j (by omega)
    rw [downTo_succ, he]
    simp only
    generalize hm : k - j = m at hat
    cases hat with
    | gone hg => rw [he] at hg; cases hg
    | base _ _ => omega
    | step h1 h2 _ =>
      rw [he] at h1
      injection h1 with h1
      subst h1
      exact h.kn e (dk_get he).1 h2
theorem down_end (h : CS bits room L) {nm : List UInt8} {k : Nat} (hd : Dn L nm k) (h0 : ∃ d, dk L nm = some d) : downTo L (k + 1) nm = [] := by
  obtain ⟨e, he⟩ := down_known h hd h0 k (Nat.le_refl _)
  have hat := dn_at hd k (Nat.le_refl _)
  rw [Nat.sub_self] at hat
  rw [downTo_succ, he]
  simp only
  cases hat with
  | gone hg => rw [he] at hg; cases hg
  | base h1 h2 =>
    rw [he] at h1
    injection h1 with h1
    subst h1
    exact h2
theorem known_ne (h : CS bits room L) {n : List UInt8} (hn : ∃ e, dk L n = some e) : n ≠ [] := by
  obtain ⟨e, he⟩ := hn
  rw [← (dk_get he).2]
  exact h.ne e (dk_get he).1
end
theorem crd_eq {bits : Nat} {L L' : List Dsk} {nm nm' : List UInt8} {kk kk' N : Nat} (h : ∀ c, c < N → cseen bits L nm kk c = cseen bits L' nm' kk' c) : ∀ n, n ≤ N * 2 ^ bits → crdK bits L nm kk 0 n = crdK bits L' nm' kk' 0 n
  | 0, _ => rfl
  | n + 1, hn => by
    have ih := crd_eq h n (by omega)
    have hp : 0 < 2 ^ bits := Nat.two_pow_pos bits
    have hlt : n / 2 ^ bits < N := (Nat.div_lt_iff_lt_mul hp).2 (by omega)
    show crdK bits L nm kk 0 n ++ crdP bits L nm kk (0 + n) = crdK bits L' nm' kk' 0 n ++ crdP bits L' nm' kk' (0 + n)
    rw [ih, Nat.zero_add]
    unfold crdP
    rw [h _ hlt]
section
variable {bits : Nat} {L : List Dsk} {c : Nat}
theorem seenL_fst : ∀ (ns : List (List UInt8)) (i j : Nat), (seenL bits L c ns i).1 = (seenL bits L c ns j).1
  | [], _, _ => rfl
  | n :: ns, i, j => by
    unfold seenL
    cases dk L n with
    | none => rfl
    | some d =>
      simp only
      split
      · rfl
      · exact seenL_fst ns _ _
theorem seenL_snd : ∀ (ns : List (List UInt8)) (i : Nat), (∀ n, n ∈ ns → ∃ e, dk L n = some e) → ((seenL bits L c ns i).2 = 0 ∧ (seenL bits L c ns i).1 = List.replicate (16 * 2 ^ bits) 0) ∨ (i < (seenL bits L c ns i).2 ∧ (seenL bits L c ns i).2 ≤ i + ns.length)
  | [], _, _ => .inl ⟨rfl, rfl⟩
  | n :: ns, i, h => by
    obtain ⟨e, he⟩ := h n (List.mem_cons_self ..)
    have ih := seenL_snd ns (i + 1) fun x hx => h x (List.mem_cons_of_mem _ hx)
    unfold seenL
    rw [he]
    simp only
    split
    · right
      rw [List.length_cons]
      show i < i + 1 ∧ i + 1 ≤ i + (ns.length + 1)
      omega
    · rcases ih with ih | ih
      · exact .inl ih
      · right
        rw [List.length_cons]
        omega
theorem seenL_head {n : List UInt8} {ns : List (List UInt8)} {i : Nat} {d : Dsk} (hd : dk L n = some d) (h : c < d.im.t.length ∧ (d.im.t.getD c s0).1 ≠ 0) : seenL bits L c (n :: ns) i = (clus d.im c none, i + 1) := by
  unfold seenL
  rw [hd]
  simp only
  rw [if_pos h]
theorem seenL_tail {n : List UInt8} {ns : List (List UInt8)} {i : Nat} {d : Dsk} (hd : dk L n = some d) (h : ¬ (c < d.im.t.length ∧ (d.im.t.getD c s0).1 ≠ 0)) : seenL bits L c (n :: ns) i = seenL bits L c ns (i + 1) := by
  conv => lhs; unfold seenL
  rw [hd]
  simp only
  rw [if_neg h]
/-- Who is a Hole reads what is below. -/
theorem cseen_hole {nm : List UInt8} {kk : Nat} {d : Dsk} (hd : dk L nm = some d) (h : ¬ (c < d.im.t.length ∧ (d.im.t.getD c s0).1 ≠ 0)) : cseen bits L nm kk c = belY bits L nm kk c := by
  unfold cseen belY
  rw [seenL_tail hd h]
theorem belY_step {nm : List UInt8} {kk : Nat} {d : Dsk} (hd : dk L nm = some d) : belY bits L nm (kk + 1) c = cseen bits L d.back kk c := by
  unfold belY cseen
  rw [show bl L (kk + 1) nm = d.back :: bl L kk d.back by conv => lhs; unfold bl
                                                          rw [hd]]
  exact seenL_fst _ _ _
end
section
variable {bits room : Nat} {L : List Dsk}
theorem CS.kn_all (h : CS bits room L) {nm : List UInt8} (h0 : ∃ d, dk L nm = some d) : ∀ n, n ∈ nm :: bl L (dpt L nm) nm → ∃ e, dk L n = some e := fun n hn => by
  rcases List.mem_cons.1 hn with rfl | hn
  · exact h0
  · exact bl_known h.toChOK (h.dep nm).1 n hn
/-- How deep one is that stands on another one. -/
theorem dpt_step (h : CS bits room L) {nm : List UInt8} {d : Dsk} (hd : dk L nm = some d) (hb : d.back ≠ []) : dpt L nm = dpt L d.back + 1 := by
  have h1 := (h.dep d.back)
  exact dpt_of (.step hd hb h1.1) (by omega)
theorem awy_one (h : CS bits room L) {nm : List UInt8} {d : Dsk} (hd : dk L nm = some d) {c : Nat} : awy bits L nm c = 1 ↔ (c < d.im.t.length ∧ (d.im.t.getD c s0).1 ≠ 0) := by
  unfold awy
  constructor
  · intro e
    refine Decidable.byContradiction fun hn => ?_
    rw [seenL_tail hd hn] at e
    have := seenL_snd (bits := bits) (L := L) (c := c) (bl L (dpt L nm) nm) (0 + 1) fun n hn => h.kn_all ⟨d, hd⟩ n (List.mem_cons_of_mem _ hn)
    omega
  · intro hh
    rw [seenL_head hd hh]
theorem awy_zero (h : CS bits room L) {nm : List UInt8} {d : Dsk} (hd : dk L nm = some d) {c : Nat} (e : awy bits L nm c = 0) : cseen bits L nm (dpt L nm) c = List.replicate (16 * 2 ^ bits) 0 := by
  rcases seenL_snd (bits := bits) (c := c) _ 0 (h.kn_all ⟨d, hd⟩) with h1 | h1
  · exact h1.2
  · have e : (seenL bits L c (nm :: bl L (dpt L nm) nm) 0).2 = 0 := e
    omega
theorem awy_le (h : CS bits room L) {nm : List UInt8} {d : Dsk} (hd : dk L nm = some d) {c : Nat} : awy bits L nm c ≤ dpt L nm + 1 := by
  have h2 : awy bits L nm c = (seenL bits L c (nm :: bl L (dpt L nm) nm) 0).2 := rfl
  have h3 := bl_len (h.dep nm).1
  rcases seenL_snd (bits := bits) (c := c) _ 0 (h.kn_all ⟨d, hd⟩) with h1 | h1
  · omega
  · rw [List.length_cons] at h1
    omega
end
/-- All is discarded. -/
theorem ids_all {s : ImS} (hO : ImOK s) {c : Nat} (hc : c < s.t.length) : (idsS s 0 (iall s)).t[c]? = some s0 := by
  have hW := wid_isW hO.bits
  have hw : 16 * iall s = s.t.length * wid s := by
    unfold iall wid
    rw [Nat.mul_left_comm]
  have hp : 0 < wid s := by have := wid_le hO.bits; omega
  have hm : (c + 1) * wid s ≤ s.t.length * wid s := Nat.mul_le_mul_right _ hc
  rw [Nat.succ_mul] at hm
  have hk : c < pcN (wid s) 0 (iall s) := (pcN_iff hW).1 ⟨by omega, by rw [Nat.mul_zero, Nat.zero_div, Nat.zero_add, Nat.zero_add]; omega⟩
  have hd := (dsI hO (a := 0) (l := iall s) (by omega) _ (Nat.le_refl _)).done c hk
  have e : (pce (wid s) 0 (iall s) c).b - (pce (wid s) 0 (iall s) c).a = wid s := by
    show min (16 * (0 + iall s) - (16 * 0 / wid s + c) * wid s) (wid s) - (16 * 0 - (16 * 0 / wid s + c) * wid s) = wid s
    rw [Nat.mul_zero, Nat.zero_div, Nat.zero_add, Nat.zero_add, Nat.zero_sub]
    omega
  rw [if_pos e, Nat.mul_zero, Nat.zero_div, Nat.zero_add] at hd
  exact hd
theorem iIns_zero {s : ImS} (hO : ImOK s) {n : Nat} (hn : n ≤ iall s) : iIns s 0 (n : Int) = 0 := by
  unfold iIns
  rw [if_neg (by omega), if_neg (by omega)]
theorem rdC_ok {bits room : Nat} {L : List Dsk} (h : CS bits room L) {nm : List UInt8} {d : Dsk} (hd : dk L nm = some d) {n : Nat} (hn : n ≤ iall d.im) : rdC bits L nm 0 (n : Int) = (crdK bits L nm (dpt L nm) 0 n, 0) := by
  unfold rdC
  rw [hd]
  simp only
  rw [if_pos (iIns_zero (h.ims d (dk_get hd).1).1 hn)]
  rfl
theorem shl1 (n : Nat) : (n : Int) * ((2 ^ (1 : Int).toNat : Nat) : Int) = ((n * 2 : Nat) : Int) := by
  show (n : Int) * 2 = _
  omega
theorem iall_one {bits room : Nat} {L : List Dsk} (h : CS bits room L) {nm : List UInt8} {d : Dsk} (hd : dk L nm = some d) : iall d.im = d.im.t.length * 2 ^ bits := by
  unfold iall
  rw [(h.ims d (dk_get hd).1).2.1]
/-! ### what is written to one is not seen in those that do not stand on it -/
def Lm (L : List Dsk) (t : List UInt8) (L' : List Dsk) : Prop := L' = L ∨ ∃ d im, dk L t = some d ∧ Like d.im im ∧ L' = lim L t im none
structure Off (L : List Dsk) (t n : List UInt8) : Prop where
  ne : n ≠ t
  nb : t ∉ bl L (dpt L n) n
section
variable {bits room : Nat} {L L' : List Dsk} {t n : List UInt8}
theorem wrC_lm (h : CS bits room L) (nm : List UInt8) (a : Int) (bs : List UInt8) : Lm L nm (wrC bits L nm a bs).L := by
  unfold wrC
  cases h0 : dk L nm with
  | none => exact .inl rfl
  | some d =>
    simp only
    split
    · exact .inl rfl
    · rename_i h1
      split
      · exact .inl rfl
      · rename_i h2
        have h2 : iIns d.im a ((bs.length / 16 : Nat) : Int) = 0 := Decidable.byContradiction h2
        have e := (iIns_pos h2).1
        rw [e] at h2
        exact .inr ⟨d, _, h0, iwS_like (h.ims d (dk_get h0).1).1 (by omega) h2 _, rfl⟩
theorem zrC_lm (h : CS bits room L) (nm : List UInt8) (a l : Int) : Lm L nm (zrC bits L nm a l).L := by
  unfold zrC
  cases h0 : dk L nm with
  | none => exact .inl rfl
  | some d =>
    simp only
    split
    · exact .inl rfl
    · rename_i h2
      have h2 : iIns d.im a l = 0 := Decidable.byContradiction h2
      obtain ⟨e1, e2⟩ := iIns_pos h2
      rw [e1, e2] at h2
      exact .inr ⟨d, _, h0, izS_like (h.ims d (dk_get h0).1).1 h2 _, rfl⟩
theorem dsC_lm (h : CS bits room L) (nm : List UInt8) (a l : Int) : Lm L nm (dsC L nm a l).L := by
  unfold dsC
  cases h0 : dk L nm with
  | none => exact .inl rfl
  | some d =>
    simp only
    split
    · exact .inl rfl
    · rename_i h2
      have h2 : iIns d.im a l = 0 := Decidable.byContradiction h2
      obtain ⟨e1, e2⟩ := iIns_pos h2
      rw [e1, e2] at h2
      exact .inr ⟨d, _, h0, (dsI (h.ims d (dk_get h0).1).1 (iIns_all h2) _ (Nat.le_refl _)).like, rfl⟩
theorem Lm.cs (h : CS bits room L) (hl : Lm L t L') : CS bits room L' := by
  rcases hl with rfl | ⟨d, im, h0, hs, rfl⟩
  · exact h
  · exact h.lim h0 hs
theorem dpt_lim (h : CS bits room L) (t : List UInt8) (im : ImS) (pin : Option (Nat → Nat)) (n : List UInt8) : dpt (lim L t im pin) n = dpt L n := by
  have hd := h.dep n
  exact dpt_of (dn_lim t im pin hd.1) (by omega)
theorem Lm.dpt (h : CS bits room L) (hl : Lm L t L') (n : List UInt8) : Go.Proofs.YtolaecebfkdbcaaGreat.dpt L' n = Go.Proofs.YtolaecebfkdbcaaGreat.dpt L n := by
  rcases hl with rfl | ⟨d, im, h0, hs, rfl⟩
  · rfl
  · exact dpt_lim h t im none n
theorem Lm.off (h : CS bits room L) (hl : Lm L t L') (o : Off L t n) : Off L' t n ∧ dk L' n = dk L n ∧ ∀ c, cseen bits L' n (Go.Proofs.YtolaecebfkdbcaaGreat.dpt L' n) c = cseen bits L n (Go.Proofs.YtolaecebfkdbcaaGreat.dpt L n) c := by
  have hdp := hl.dpt h n
  rcases hl with rfl | ⟨d, im, h0, hs, rfl⟩
  · exact ⟨o, rfl, fun _ => rfl⟩
  · refine ⟨⟨o.ne, by rw [hdp, bl_lim]; exact o.nb⟩, dk_lim_ne o.ne im none, fun c => ?_⟩
    rw [hdp]
    unfold cseen
    rw [bl_lim, seenL_lim]
    intro hm
    rcases List.mem_cons.1 hm with e | hm
    · exact o.ne e.symm
    · exact o.nb hm
theorem crdK_all {L L' : List Dsk} {nm nm' : List UInt8} {kk kk' : Nat} (h : ∀ c, cseen bits L nm kk c = cseen bits L' nm' kk' c) (a : Nat) : ∀ n, crdK bits L nm kk a n = crdK bits L' nm' kk' a n
  | 0 => rfl
  | n + 1 => by
    show crdK bits L nm kk a n ++ crdP bits L nm kk (a + n) = crdK bits L' nm' kk' a n ++ crdP bits L' nm' kk' (a + n)
    rw [crdK_all h a n]
    unfold crdP
    rw [h]
theorem Lm.read (h : CS bits room L) (hl : Lm L t L') (o : Off L t n) (a l : Int) : rdC bits L' n a l = rdC bits L n a l := by
  obtain ⟨_, h1, h2⟩ := hl.off h o
  unfold rdC
  rw [h1]
  cases dk L n with
  | none => rfl
  | some d =>
    simp only
    rw [crdK_all h2]
/-- Nobody stands on what stands on him. -/
theorem off_of (h : CS bits room L) {d : Dsk} (hd : dk L t = some d) (hb : d.back ≠ []) : Off L t d.back := by
  have h1 := (h.dep d.back).1
  have h2 : Dn L t (Go.Proofs.YtolaecebfkdbcaaGreat.dpt L d.back + 1) := .step hd hb h1
  refine ⟨fun e => ?_, fun hm => ?_⟩
  · rw [e] at h1 h2
    have := dn_det h1 h2
    omega
  · obtain ⟨j, hj, h3⟩ := bl_mem h1 t hm
    have := dn_det h3 h2
    omega
end
theorem adC_ok {bits room : Nat} {L : List Dsk} {nm back : List UInt8} {size : Int} {p : Nat × Nat} (he : (adC bits room L nm size back p).e = 0) :
    adC bits room L nm size back p = ⟨0, adD L nm back p.1 p.2 (iNew bits size.toNat room)⟩ ∧ dk L nm = none ∧ (decide (back = []) || (dk L back).isSome) = true ∧ newMay bits size room = true := by
  unfold adC at he ⊢
  split at he
  · exact absurd he (show ¬ (1 : Int) = 0 by decide)
  · rename_i h1
    split at he
    · exact absurd he (show ¬ (143 : Int) = 0 by decide)
    · rename_i h2
      split at he
      · exact absurd he (show ¬ (140 : Int) = 0 by decide)
      · rename_i h3
        split at he
        · exact absurd he (show ¬ (142 : Int) = 0 by decide)
        · rename_i h4
          rw [if_neg h1, if_neg h2, if_neg h3, if_neg h4]
          refine ⟨rfl, ?_, by rw [Bool.not_eq_false] at h3; exact h3, ?_⟩
          · cases e : dk L nm with
            | none => rfl
            | some d => exact absurd (.inl (by rw [e]; rfl)) h2
          · rw [Bool.not_eq_false, Bool.and_eq_true] at h1
            exact h1.2
end Go.Proofs.YtolaecebfkdbcaaGreat
