/-
  Chains: what a disk reads, in plain words.
-/
import Derived.Test.YtclklmajbnadcaaUb
set_option linter.unusedVariables false
set_option linter.unusedSimpArgs false
set_option maxRecDepth 10000
namespace Go.Proofs.Ytclklmajbnadcaa
open Go.RowKit Go.Proofs
theorem crd_eq {bits : Nat} {L L' : List Dsk} {nm nm' : List UInt8} {kk kk' N : Nat} (h : ∀ c, c < N → cseen bits L nm kk c = cseen bits L' nm' kk' c) : ∀ n, n ≤ N * 2 ^ bits → crdK bits L nm kk 0 n = crdK bits L' nm' kk' 0 n
  | 0, _ => rfl
  | n + 1, hn => by
    have ih := crd_eq h n (by omega)
    have hp : 0 < 2 ^ bits := Nat.two_pow_pos bits
    have hlt : n / 2 ^ bits < N := (Nat.div_lt_iff_lt_mul hp).2 (by omega)
    show crdK bits L nm kk 0 n ++ crdP bits L nm kk (0 + n) = crdK bits L' nm' kk' 0 n ++ crdP bits L' nm' kk' (0 + n)
    rw [ih, Nat.zero_add]
    unfold crdP
    rw [h _ hlt]
section
variable {bits : Nat} {L : List Dsk} {c : Nat}
theorem seenL_fst : ∀ (ns : List (List UInt8)) (i j : Nat), (seenL bits L c ns i).1 = (seenL bits L c ns j).1
  | [], _, _ => rfl
  | n :: ns, i, j => by
    unfold seenL
    cases dk L n with
    | none => rfl
    | some d =>
      simp only
      split
      · rfl
      · exact seenL_fst ns _ _
theorem seenL_snd : ∀ (ns : List (List UInt8)) (i : Nat), (∀ n, n ∈ ns → ∃ e, dk L n = some e) → ((seenL bits L c ns i).2 = 0 ∧ (seenL bits L c ns i).1 = List.replicate (16 * 2 ^ bits) 0) ∨ (i < (seenL bits L c ns i).2 ∧ (seenL bits L c ns i).2 ≤ i + ns.length)
  | [], _, _ => .inl ⟨rfl, rfl⟩
  | n :: ns, i, h => by
    obtain ⟨e, he⟩ := h n (List.mem_cons_self ..)
    have ih := seenL_snd ns (i + 1) fun x hx => h x (List.mem_cons_of_mem _ hx)
    unfold seenL
    rw [he]
    simp only
    split
    · right
      rw [List.length_cons]
      show i < i + 1 ∧ i + 1 ≤ i + (ns.length + 1)
      omega
    · rcases ih with ih | ih
      · exact .inl ih
      · right
        rw [List.length_cons]
        omega
theorem seenL_head {n : List UInt8} {ns : List (List UInt8)} {i : Nat} {d : Dsk} (hd : dk L n = some d) (h : c < d.im.t.length ∧ (d.im.t.getD c s0).1 ≠ 0) : seenL bits L c (n :: ns) i = (clus d.im c none, i + 1) := by
  unfold seenL
  rw [hd]
  simp only
  rw [if_pos h]
theorem seenL_tail {n : List UInt8} {ns : List (List UInt8)} {i : Nat} {d : Dsk} (hd : dk L n = some d) (h : ¬ (c < d.im.t.length ∧ (d.im.t.getD c s0).1 ≠ 0)) : seenL bits L c (n :: ns) i = seenL bits L c ns (i + 1) := by
  conv => lhs; unfold seenL
  rw [hd]
  simp only
  rw [if_neg h]
/-- Who is a Hole reads what is below. -/
theorem cseen_hole {nm : List UInt8} {kk : Nat} {d : Dsk} (hd : dk L nm = some d) (h : ¬ (c < d.im.t.length ∧ (d.im.t.getD c s0).1 ≠ 0)) : cseen bits L nm kk c = belY bits L nm kk c := by
  unfold cseen belY
  rw [seenL_tail hd h]
theorem belY_step {nm : List UInt8} {kk : Nat} {d : Dsk} (hd : dk L nm = some d) : belY bits L nm (kk + 1) c = cseen bits L d.back kk c := by
  unfold belY cseen
  rw [show bl L (kk + 1) nm = d.back :: bl L kk d.back by conv => lhs; unfold bl
                                                          rw [hd]]
  exact seenL_fst _ _ _
end
section
variable {bits room : Nat} {L : List Dsk}
theorem CS.kn_all (h : CS bits room L) {nm : List UInt8} (h0 : ∃ d, dk L nm = some d) : ∀ n, n ∈ nm :: bl L (dpt L nm) nm → ∃ e, dk L n = some e := fun n hn => by
  rcases List.mem_cons.1 hn with rfl | hn
  · exact h0
  · exact bl_known h.toChOK (h.dep nm).1 n hn
/-- How deep one is that stands on another one. -/
theorem dpt_step (h : CS bits room L) {nm : List UInt8} {d : Dsk} (hd : dk L nm = some d) (hb : d.back ≠ []) : dpt L nm = dpt L d.back + 1 := by
  have h1 := (h.dep d.back)
  exact dpt_of (.step hd hb h1.1) (by omega)
theorem awy_one (h : CS bits room L) {nm : List UInt8} {d : Dsk} (hd : dk L nm = some d) {c : Nat} : awy bits L nm c = 1 ↔ (c < d.im.t.length ∧ (d.im.t.getD c s0).1 ≠ 0) := by
  unfold awy
  constructor
  · intro e
    refine Decidable.byContradiction fun hn => ?_
    rw [seenL_tail hd hn] at e
    have := seenL_snd (bits := bits) (L := L) (c := c) (bl L (dpt L nm) nm) (0 + 1) fun n hn => h.kn_all ⟨d, hd⟩ n (List.mem_cons_of_mem _ hn)
    omega
  · intro hh
    rw [seenL_head hd hh]
theorem awy_zero (h : CS bits room L) {nm : List UInt8} {d : Dsk} (hd : dk L nm = some d) {c : Nat} (e : awy bits L nm c = 0) : cseen bits L nm (dpt L nm) c = List.replicate (16 * 2 ^ bits) 0 := by
  rcases seenL_snd (bits := bits) (c := c) _ 0 (h.kn_all ⟨d, hd⟩) with h1 | h1
  · exact h1.2
  · have e : (seenL bits L c (nm :: bl L (dpt L nm) nm) 0).2 = 0 := e
    omega
theorem awy_le (h : CS bits room L) {nm : List UInt8} {d : Dsk} (hd : dk L nm = some d) {c : Nat} : awy bits L nm c ≤ dpt L nm + 1 := by
  have h2 : awy bits L nm c = (seenL bits L c (nm :: bl L (dpt L nm) nm) 0).2 := rfl
  have h3 := bl_len (h.dep nm).1
  rcases seenL_snd (bits := bits) (c := c) _ 0 (h.kn_all ⟨d, hd⟩) with h1 | h1
  · omega
  · rw [List.length_cons] at h1
    omega
end
/-- All is discarded. -/
theorem ids_all {s : ImS} (hO : ImOK s) {c : Nat} (hc : c < s.t.length) : (idsS s 0 (iall s)).t[c]? = some s0 := by
  have hW := wid_isW hO.bits
  have hw : 16 * iall s = s.t.length * wid s := by
    unfold iall wid
    rw [Nat.mul_left_comm]
  have hp : 0 < wid s := by have := wid_le hO.bits; omega
  have hm : (c + 1) * wid s ≤ s.t.length * wid s := Nat.mul_le_mul_right _ hc
  rw [Nat.succ_mul] at hm
  have hk : c < pcN (wid s) 0 (iall s) := (pcN_iff hW).1 ⟨by omega, by rw [Nat.mul_zero, Nat.zero_div, Nat.zero_add, Nat.zero_add]; omega⟩
  have hd := (dsI hO (a := 0) (l := iall s) (by omega) _ (Nat.le_refl _)).done c hk
  have e : (pce (wid s) 0 (iall s) c).b - (pce (wid s) 0 (iall s) c).a = wid s := by
    show min (16 * (0 + iall s) - (16 * 0 / wid s + c) * wid s) (wid s) - (16 * 0 - (16 * 0 / wid s + c) * wid s) = wid s
    rw [Nat.mul_zero, Nat.zero_div, Nat.zero_add, Nat.zero_add, Nat.zero_sub]
    omega
  rw [if_pos e, Nat.mul_zero, Nat.zero_div, Nat.zero_add] at hd
  exact hd
theorem iIns_zero {s : ImS} (hO : ImOK s) {n : Nat} (hn : n ≤ iall s) : iIns s 0 (n : Int) = 0 := by
  unfold iIns
  rw [if_neg (by omega), if_neg (by omega)]
end Go.Proofs.Ytclklmajbnadcaa
