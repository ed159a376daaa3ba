/-
  Scripts on chains whose calls tell an error alone: what they make of a chain; small disks.
-/
import Derived.Test.YtbcngglcaeehbaaGreatPp
import Derived.Test.YtbcngglcaeehbaaGreatLz
set_option linter.unusedVariables false
set_option linter.unusedSimpArgs false
set_option maxRecDepth 10000
namespace Go.Proofs.YtbcngglcaeehbaaGreat
open Go.RowKit Go.Proofs
def doW (bits : Nat) (L : List Dsk) (nm : List UInt8) (q : Cq) : CR :=
  if qK q = 1 then wrC bits L nm (qA q) (qB q) else if qK q = 2 then zrC bits L nm (qA q) (qL q) else if qK q = 3 then dsC L nm (qA q) (qL q) else ⟨0, L⟩
def doD (bits room : Nat) (L : List Dsk) (o : Cop) (p : Nat × Nat) : CR :=
  if cK o = 0 then adC bits room L (cNm o) (cSz o) (cOt o) p else if cK o = 1 then rmC L (cNm o) else if cK o = 2 then rbC L (cNm o) (cOt o) else if cK o = 3 then doW bits L (cNm o) (cQ o) else ⟨0, L⟩
section
variable {bits room : Nat} {L : List Dsk}
theorem doW_cs (h : CS bits room L) (nm : List UInt8) (q : Cq) : CS bits room (doW bits L nm q).L := by
  unfold doW
  split
  · exact wrC_cs h _ _ _
  · split
    · exact zrC_cs h _ _ _
    · split
      · exact dsC_cs h _ _ _
      · exact h
theorem doW_lm (h : CS bits room L) (nm : List UInt8) (q : Cq) : Lm L nm (doW bits L nm q).L := by
  unfold doW
  split
  · exact wrC_lm h _ _ _
  · split
    · exact zrC_lm h _ _ _
    · split
      · exact dsC_lm h _ _ _
      · exact .inl rfl
theorem doD_cs (h : CS bits room L) {o : Cop} (hk : cK o ≠ 0) (p : Nat × Nat) : CS bits room (doD bits room L o p).L := by
  unfold doD
  rw [if_neg hk]
  split
  · exact rmC_cs h _
  · split
    · exact rbC_cs h _ _
    · split
      · exact doW_cs h _ _
      · exact h
/-- No disk has more than twelve clusters. -/
def Sml (L : List Dsk) : Prop := ∀ d, d ∈ L → d.im.t.length ≤ 12
theorem Sml.nil : Sml [] := fun d h => by cases h
theorem Sml.of (hN : CS bits room L) (h : ∀ n, szOf L n ≤ 12) : Sml L := fun d hd => by
  have := h d.nm
  unfold szOf at this
  rw [dk_mem hN.nms hd] at this
  exact this
theorem Sml.sz (h : Sml L) (n : List UInt8) : szOf L n ≤ 12 := by
  unfold szOf
  cases e : dk L n with
  | none => exact Nat.zero_le _
  | some d => exact h d (dk_get e).1
theorem Lm.sz {L' : List Dsk} {t : List UInt8} (hl : Lm L t L') (n : List UInt8) : szOf L' n = szOf L n ∧ (dk L' n).isSome = (dk L n).isSome := by
  rcases hl with rfl | ⟨d, im, h0, hs, rfl⟩
  · exact ⟨rfl, rfl⟩
  · exact szOf_lim L h0 hs
theorem Sml.lm {L' : List Dsk} {t : List UInt8} (h : Sml L) (hC : CS bits room L) (hl : Lm L t L') : Sml L' := Sml.of (hl.cs hC) fun n => by
  rw [(hl.sz n).1]
  exact h.sz n
theorem Sml.do (h : Sml L) (hC : CS bits room L) {o : Cop} (hb : cBad o = false) {p : Nat × Nat} : Sml (doD bits room L o p).L := by
  unfold doD
  split
  · by_cases he : (adC bits room L (cNm o) (cSz o) (cOt o) p).e = 0
    · obtain ⟨g1, g2, g3, g4⟩ := adC_ok he
      rw [g1]
      obtain ⟨⟨n1, n2⟩, _⟩ := newMay_get g4
      have hs : cSz o ≤ 12 := by
        unfold cBad at hb
        rcases Int.lt_or_le 12 (cSz o) with c | c
        · rw [decide_eq_true c, decide_eq_true n2] at hb
          cases hb
        · exact c
      intro d hd
      rcases List.mem_append.1 hd with hd | hd
      · exact h d hd
      · rw [List.mem_singleton] at hd
        subst hd
        show (List.replicate (cSz o).toNat s0).length ≤ 12
        rw [List.length_replicate]
        omega
    · have : (adC bits room L (cNm o) (cSz o) (cOt o) p).L = L := by
        unfold adC at he ⊢
        split
        · rfl
        · rename_i h1
          rw [if_neg h1] at he
          split
          · rfl
          · rename_i h2
            rw [if_neg h2] at he
            split
            · rfl
            · rename_i h3
              rw [if_neg h3] at he
              split
              · rfl
              · rename_i h4
                rw [if_neg h4] at he
                exact absurd rfl he
      rw [this]
      exact h
  · split
    · unfold rmC
      cases dk L (cNm o) with
      | none => exact h
      | some d =>
        simp only
        split
        · exact fun d hd => h d (ldel_mem hd)
        · exact h
    · split
      · unfold rbC
        split
        · exact h
        · split
          · exact h
          · split
            · intro d hd
              obtain ⟨e, he, rfl⟩ := List.mem_map.1 hd
              rw [rbD_im]
              exact h e he
            · exact h
      · split
        · exact h.lm hC (doW_lm hC _ _)
        · exact h
end
/-! ### few, of two lists -/
@[reducible] def uJ : U := .pr uI uQ
abbrev Jop := Int × Cq
@[reducible] def jK (o : Jop) : Int := o.1
@[reducible] def jQ (o : Jop) : Cq := o.2
@[reducible] def jopL (o : Jop) : List S1 := .d (.int .i64 (jK o)) :: cqL (jQ o)
@[reducible] def jopV (o : Jop) : SV := .c (.agg (jopL o))
def jTot (o : Jop) : Nat := (qB (jQ o)).length
def jTo (l : List Jop) (k : Nat) : Nat := ((l.take k).map jTot).sum
theorem jTo_le (l : List Jop) (k : Nat) : jTo l k ≤ (l.map jTot).sum := by
  unfold jTo
  rw [List.map_take]
  exact csum_le _ _
theorem jTo_succ (l : List Jop) {k : Nat} (h : k < l.length) : jTo l (k + 1) = jTo l k + jTot l[k] := by
  unfold jTo
  rw [List.take_add_one, List.getElem?_eq_getElem h, List.map_append, List.sum_append]
  rfl
theorem jTot_le {l : List Jop} {o : Jop} (h : o ∈ l) : jTot o ≤ (l.map jTot).sum := by
  induction l with
  | nil => cases h
  | cons x l ih =>
    rw [List.map_cons, List.sum_cons]
    rcases List.mem_cons.1 h with rfl | h
    · omega
    · have := ih h
      omega
def fewJ (l : List Cop) (m : List Jop) : Bool := (l.all fun o => !cBad o) && (decide (l.length + m.length ≤ 60) && decide ((l.map cTot).sum + (m.map jTot).sum ≤ 6000))
theorem fewJ_bad {l : List Cop} {m : List Jop} {k : Nat} (hk : k < l.length) (hb : cBad l[k] = true) : fewJ l m = false := by
  unfold fewJ
  rw [show (l.all fun o => !cBad o) = false from Bool.eq_false_iff.2 fun h => by
    have := List.all_eq_true.1 h _ (List.getElem_mem hk)
    rw [hb] at this
    cases this]
  rfl
theorem fewJ_get {l : List Cop} {m : List Jop} (h : fewJ l m = true) : l.length + m.length ≤ 60 ∧ (∀ o, o ∈ l → cTot o ≤ 6000 ∧ cBad o = false) ∧ ∀ o, o ∈ m → jTot o ≤ 6000 := by
  unfold fewJ at h
  simp only [Bool.and_eq_true] at h
  have h2 := of_decide_eq_true h.2.2
  refine ⟨of_decide_eq_true h.2.1, fun o ho => ⟨Nat.le_trans (cTot_le ho) (by omega), ?_⟩, fun o ho => Nat.le_trans (jTot_le ho) (by omega)⟩
  have := List.all_eq_true.1 h.1 o ho
  simpa using this
theorem bulkj_op (o : Jop) : bulkU uJ o = 6 + jTot o + (qN (jQ o)).length := by
  have h1 := bulkc_u8 (qB (jQ o))
  have e : bulkU uJ o = 1 + (1 + (1 + (1 + (bulkU (.sl .u8) (qB (jQ o)) + (1 + (qN (jQ o)).length))))) := rfl
  rw [e, h1]
  unfold jTot
  omega
theorem bulkj_ops : ∀ l : List Jop, 1 + l.length + (l.map jTot).sum ≤ bulkU (.sl uJ) l
  | [] => Nat.le_refl _
  | o :: l => by
    have h1 := bulkj_ops l
    have e2 : bulkU (.sl uJ) l = 1 + (List.map (bulkU uJ) l).sum := rfl
    have e3 := bulkj_op o
    show 1 + (l.length + 1) + (jTot o + (l.map jTot).sum) ≤ 1 + (bulkU uJ o + (List.map (bulkU uJ) l).sum)
    omega
end Go.Proofs.YtbcngglcaeehbaaGreat
