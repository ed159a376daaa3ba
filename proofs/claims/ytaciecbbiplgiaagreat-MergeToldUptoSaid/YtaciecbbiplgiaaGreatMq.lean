/-
  Merges, plain: a step of a job with room; how much a write adds.
-/
import Derived.Test.YtaciecbbiplgiaaGreatLu15
set_option linter.unusedVariables false
set_option linter.unusedSimpArgs false
set_option maxRecDepth 10000
namespace Go.Proofs.YtaciecbbiplgiaaGreat
open Go.RowKit Go.Proofs
section
variable {bits room : Nat} {L : List Dsk} {top base nm : List UInt8} {l : List Nat}
theorem room_pos (h : CS bits room L) {d : Dsk} (hd : dk L nm = some d) (hr : d.im.t.length < room) : 0 < zeros d.im.l := by
  obtain ⟨hO, hbt, hlen⟩ := h.ims d (dk_get hd).1
  have := used_le hO
  omega
theorem zr_ok (h : CS bits room L) {d : Dsk} (hd : dk L nm = some d) {k : Nat} (hk : k < d.im.t.length) (hz : 0 < zeros d.im.l) : (zrC bits L nm ((k * 2 ^ bits : Nat) : Int) ((2 ^ bits : Nat) : Int)).e = 0 := by
  obtain ⟨hO, hbt, _⟩ := h.ims d (dk_get hd).1
  have hin := clus_in hO hk
  rw [hbt] at hin
  unfold zrC
  rw [hd]
  simp only
  rw [if_neg (fun hh => hh hin)]
  show izE d.im ((k * 2 ^ bits : Nat) : Int).toNat ((2 ^ bits : Nat) : Int).toNat = 0
  unfold izE
  rw [if_pos]
  refine Nat.le_trans (zdK_le _ _ _ _) (Nat.le_trans ?_ hz)
  exact pcN_one h.b3 (wid_eq h hd)
theorem clC_eq {d : Dsk} (hd : dk L top = some d) {k : Nat} (hk : k < d.im.t.length) : clC bits L top (k : Int) = cseen bits L top (dpt L top) k := by
  unfold clC
  rw [hd]
  simp only
  rw [if_pos ⟨by omega, by omega⟩]
  rfl
/-- A job under way, with room for all that it brings. -/
structure MJ (bits room : Nat) (L : List Dsk) (top base : List UInt8) (l : List Nat) : Prop extends MI bits room L top l where
  kb : (dk L base).isSome = true
  le : szOf L top ≤ szOf L base
  sm : szOf L base < room
  bk : bkC L top = (base, 0)
  ne : base ≠ []
theorem MJ.beg (h : CS bits room L) (he : mbE L top = 0) (hs : ∀ n, szOf L n < room) : MJ bits room L top (bkC L top).1 (mbL L top) := by
  obtain ⟨e1, e2, e3, e4⟩ := mbE_ok he
  obtain ⟨d, hd, hb, hkn⟩ := bkC_ok h e1
  obtain ⟨e, hke⟩ := hkn (by rw [← hb]; exact e2)
  rw [← hb] at hke
  exact ⟨MI.beg h he, by rw [hke]; rfl, e4, hs _, by rw [← e1], e2⟩
theorem Lm.bkC {L' : List Dsk} {t : List UInt8} (hl : Lm L t L') (n : List UInt8) : bkC L' n = bkC L n := by
  rcases hl with rfl | ⟨d, im, h0, hs, rfl⟩
  · rfl
  · unfold Go.Proofs.YtaciecbbiplgiaaGreat.bkC
    rw [dk_lim]
    cases hd : dk L n with
    | none => rfl
    | some d => show (_, _) = (_, _); rw [imD_back]
theorem MJ.lm {L' : List Dsk} {t : List UInt8} (h : MJ bits room L top base l) (hl : Lm L t L') : MJ bits room L' top base l := ⟨h.toMI.lm hl, by rw [(hl.sz base).2]; exact h.kb, by rw [(hl.sz base).1, (hl.sz top).1]; exact h.le, by rw [(hl.sz base).1]; exact h.sm, by rw [hl.bkC]; exact h.bk, h.ne⟩
theorem MJ.br (h : MJ bits room L top base l) {k : Nat} (hk : k < szOf L top) : (brC bits L top base k).e = 0 := by
  obtain ⟨d, hd, _⟩ := h.toMI.get
  obtain ⟨e, he⟩ := Option.isSome_iff_exists.1 h.kb
  have hs1 : szOf L top = d.im.t.length := by unfold szOf; rw [hd]
  have hs2 : szOf L base = e.im.t.length := by unfold szOf; rw [he]
  have hle := h.le
  have hsm := h.sm
  have hz := room_pos h.cs he (by omega)
  unfold brC
  split
  · refine wr_ok h.cs he (by omega) ?_ hz
    rw [clC_eq hd (by omega), cseen_len h.cs.toChOK hd (h.cs.dep top).1 k]
  · split
    · exact zr_ok h.cs he (by omega) hz
    · rfl
theorem MJ.stepE (h : MJ bits room L top base l) (hne : l ≠ []) : mstep bits L top base l false = ⟨false, 0, (brC bits L top base (mnN l)).L, l.erase (mnN l), false⟩ := by
  have he := h.br (h.lt _ (mnN_spec hne).2.1)
  unfold mstep
  rw [if_neg (by decide), if_neg hne, he, if_pos rfl]
theorem MJ.step (h : MJ bits room L top base l) (over : Bool) : MJ bits room (mstep bits L top base l over).L top base (mstep bits L top base l over).l := by
  have hm := h.toMI.step base over
  have hl : ∃ t, Lm L t (mstep bits L top base l over).L := by
    unfold mstep
    split
    · exact ⟨top, .inl rfl⟩
    · split
      · exact ⟨top, dsC_lm h.cs _ _ _⟩
      · exact ⟨base, brC_lm h.cs top base _⟩
  obtain ⟨t, hl⟩ := hl
  have h1 := h.lm hl
  exact ⟨hm, h1.kb, h1.le, h1.sm, h1.bk, h1.ne⟩
theorem MJ.wr (h : MJ bits room L top base l) (over : Bool) (a long : Int) : MJ bits room L top base (mwC bits L top l over a long) := ⟨h.toMI.wr over a long, h.kb, h.le, h.sm, h.bk, h.ne⟩
theorem mwr_len1 (n : Nat) (l : List Nat) (a long : Nat) : l.length ≤ (mwr 1 n l (a : Int) (long : Int)).length ∧ (mwr 1 n l (a : Int) (long : Int)).length ≤ l.length + (min n ((a + long + 1) / 2) - a / 2) := by
  induction n with
  | zero => exact ⟨Nat.le_refl _, Nat.le_add_right _ _⟩
  | succ n ih =>
    rw [mwr_succ]
    split
    · rename_i hc
      have := lput_len (mwr 1 n l (a : Int) (long : Int)) n
      omega
    · omega
theorem mwC_len (h : MI 1 room L top l) (over : Bool) (a long : Nat) : l.length ≤ (mwC 1 L top l over (a : Int) (long : Int)).length ∧ (mwC 1 L top l over (a : Int) (long : Int)).length ≤ l.length + long / 2 + 2 := by
  unfold mwC
  split
  · omega
  · rename_i hc
    have := mwr_len1 (szOf L top) l a long
    omega
end
end Go.Proofs.YtaciecbbiplgiaaGreat
