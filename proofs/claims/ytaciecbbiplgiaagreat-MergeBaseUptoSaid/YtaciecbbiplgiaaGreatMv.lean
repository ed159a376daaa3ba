/-
  Merges, plain: a step of a job with room; how much a write adds.
-/
import Derived.Test.YtaciecbbiplgiaaGreatLu15
import Derived.Test.YtaciecbbiplgiaaGreatSe
set_option linter.unusedVariables false
set_option linter.unusedSimpArgs false
set_option maxRecDepth 10000
namespace Go.Proofs.YtaciecbbiplgiaaGreat
open Go.RowKit Go.Proofs
section
variable {bits room : Nat} {L : List Dsk} {top base nm : List UInt8} {l : List Nat}
theorem room_pos (h : CS bits room L) {d : Dsk} (hd : dk L nm = some d) (hr : d.im.t.length < room) : 0 < zeros d.im.l := by
  obtain ⟨hO, hbt, hlen⟩ := h.ims d (dk_get hd).1
  have := used_le hO
  omega
theorem zr_ok (h : CS bits room L) {d : Dsk} (hd : dk L nm = some d) {k : Nat} (hk : k < d.im.t.length) (hz : 0 < zeros d.im.l) : (zrC bits L nm ((k * 2 ^ bits : Nat) : Int) ((2 ^ bits : Nat) : Int)).e = 0 := by
  obtain ⟨hO, hbt, _⟩ := h.ims d (dk_get hd).1
  have hin := clus_in hO hk
  rw [hbt] at hin
  unfold zrC
  rw [hd]
  simp only
  rw [if_neg (fun hh => hh hin)]
  show izE d.im ((k * 2 ^ bits : Nat) : Int).toNat ((2 ^ bits : Nat) : Int).toNat = 0
  unfold izE
  rw [if_pos]
  refine Nat.le_trans (zdK_le _ _ _ _) (Nat.le_trans ?_ hz)
  exact pcN_one h.b3 (wid_eq h hd)
theorem clC_eq {d : Dsk} (hd : dk L top = some d) {k : Nat} (hk : k < d.im.t.length) : clC bits L top (k : Int) = cseen bits L top (dpt L top) k := by
  unfold clC
  rw [hd]
  simp only
  rw [if_pos ⟨by omega, by omega⟩]
  rfl
/-- A job under way, with room for all that it brings. -/
structure MJ (bits room : Nat) (L : List Dsk) (top base : List UInt8) (l : List Nat) : Prop extends MI bits room L top l where
  kb : (dk L base).isSome = true
  le : szOf L top ≤ szOf L base
  sm : szOf L base < room
  bk : bkC L top = (base, 0)
  ne : base ≠ []
theorem MJ.beg (h : CS bits room L) (he : mbE L top = 0) (hs : ∀ n, szOf L n < room) : MJ bits room L top (bkC L top).1 (mbL L top) := by
  obtain ⟨e1, e2, e3, e4⟩ := mbE_ok he
  obtain ⟨d, hd, hb, hkn⟩ := bkC_ok h e1
  obtain ⟨e, hke⟩ := hkn (by rw [← hb]; exact e2)
  rw [← hb] at hke
  exact ⟨MI.beg h he, by rw [hke]; rfl, e4, hs _, by rw [← e1], e2⟩
theorem Lm.bkC {L' : List Dsk} {t : List UInt8} (hl : Lm L t L') (n : List UInt8) : bkC L' n = bkC L n := by
  rcases hl with rfl | ⟨d, im, h0, hs, rfl⟩
  · rfl
  · unfold Go.Proofs.YtaciecbbiplgiaaGreat.bkC
    rw [dk_lim]
    cases hd : dk L n with
    | none => rfl
    | some d => show (_, _) = (_, _); rw [imD_back]
theorem MJ.lm {L' : List Dsk} {t : List UInt8} (h : MJ bits room L top base l) (hl : Lm L t L') : MJ bits room L' top base l := ⟨h.toMI.lm hl, by rw [(hl.sz base).2]; exact h.kb, by rw [(hl.sz base).1, (hl.sz top).1]; exact h.le, by rw [(hl.sz base).1]; exact h.sm, by rw [hl.bkC]; exact h.bk, h.ne⟩
theorem MJ.br (h : MJ bits room L top base l) {k : Nat} (hk : k < szOf L top) : (brC bits L top base k).e = 0 := by
  obtain ⟨d, hd, _⟩ := h.toMI.get
  obtain ⟨e, he⟩ := Option.isSome_iff_exists.1 h.kb
  have hs1 : szOf L top = d.im.t.length := by unfold szOf; rw [hd]
  have hs2 : szOf L base = e.im.t.length := by unfold szOf; rw [he]
  have hle := h.le
  have hsm := h.sm
  have hz := room_pos h.cs he (by omega)
  unfold brC
  split
  · refine wr_ok h.cs he (by omega) ?_ hz
    rw [clC_eq hd (by omega), cseen_len h.cs.toChOK hd (h.cs.dep top).1 k]
  · split
    · exact zr_ok h.cs he (by omega) hz
    · rfl
theorem MJ.stepE (h : MJ bits room L top base l) (hne : l ≠ []) : mstep bits L top base l false = ⟨false, 0, (brC bits L top base (mnN l)).L, l.erase (mnN l), false⟩ := by
  have he := h.br (h.lt _ (mnN_spec hne).2.1)
  unfold mstep
  rw [if_neg (by decide), if_neg hne, he, if_pos rfl]
theorem MJ.step (h : MJ bits room L top base l) (over : Bool) : MJ bits room (mstep bits L top base l over).L top base (mstep bits L top base l over).l := by
  have hm := h.toMI.step base over
  have hl : ∃ t, Lm L t (mstep bits L top base l over).L := by
    unfold mstep
    split
    · exact ⟨top, .inl rfl⟩
    · split
      · exact ⟨top, dsC_lm h.cs _ _ _⟩
      · exact ⟨base, brC_lm h.cs top base _⟩
  obtain ⟨t, hl⟩ := hl
  have h1 := h.lm hl
  exact ⟨hm, h1.kb, h1.le, h1.sm, h1.bk, h1.ne⟩
theorem MJ.wr (h : MJ bits room L top base l) (over : Bool) (a long : Int) : MJ bits room L top base (mwC bits L top l over a long) := ⟨h.toMI.wr over a long, h.kb, h.le, h.sm, h.bk, h.ne⟩
theorem mwr_len1 (n : Nat) (l : List Nat) (a long : Nat) : l.length ≤ (mwr 1 n l (a : Int) (long : Int)).length ∧ (mwr 1 n l (a : Int) (long : Int)).length ≤ l.length + (min n ((a + long + 1) / 2) - a / 2) := by
  induction n with
  | zero => exact ⟨Nat.le_refl _, Nat.le_add_right _ _⟩
  | succ n ih =>
    rw [mwr_succ]
    split
    · rename_i hc
      have := lput_len (mwr 1 n l (a : Int) (long : Int)) n
      omega
    · omega
theorem mwC_len (h : MI 1 room L top l) (over : Bool) (a long : Nat) : l.length ≤ (mwC 1 L top l over (a : Int) (long : Int)).length ∧ (mwC 1 L top l over (a : Int) (long : Int)).length ≤ l.length + long / 2 + 2 := by
  unfold mwC
  split
  · omega
  · rename_i hc
    have := mwr_len1 (szOf L top) l a long
    omega
end
/-! Merges, plain: what is not left reads the same from the base as from the top; steps change nothing of what the top reads. -/
def Sc (bits : Nat) (L : List Dsk) (nm : List UInt8) (s : Nat) : List UInt8 := crdP bits L nm (dpt L nm) s
def MV (bits : Nat) (L : List Dsk) (top base : List UInt8) (l : List Nat) : Prop := ∀ s, s < szOf L top * 2 ^ bits → s / 2 ^ bits ∉ l → Sc bits L top s = Sc bits L base s
section
variable {bits room : Nat} {L L' : List Dsk} {top base t : List UInt8} {l : List Nat}
theorem MJ.dk (h : MJ bits room L top base l) : ∃ d, Go.Proofs.YtaciecbbiplgiaaGreat.dk L top = some d ∧ d.back = base := by
  have hb := h.bk
  unfold bkC at hb
  cases hd : Go.Proofs.YtaciecbbiplgiaaGreat.dk L top with
  | none => rw [hd] at hb; exact absurd (congrArg Prod.snd hb) (show ¬ (140 : Int) = 0 by decide)
  | some d =>
    rw [hd] at hb
    exact ⟨d, rfl, congrArg Prod.fst hb⟩
theorem Sc_of {L L' : List Dsk} {n n' : List UInt8} {s : Nat} (h : cseen bits L' n' (dpt L' n') (s / 2 ^ bits) = cseen bits L n (dpt L n) (s / 2 ^ bits)) : Sc bits L' n' s = Sc bits L n s := by
  unfold Sc
  rw [crdP_sec, crdP_sec, h]
theorem rd_hole (h : CS bits room L) {d : Dsk} (hd : dk L top = some d) (hne : d.back ≠ []) {c : Nat} (hz : (d.im.t.getD c s0).1 = 0) : cseen bits L top (dpt L top) c = cseen bits L d.back (dpt L d.back) c := by
  rw [cseen_hole hd (fun e => e.2 hz), dpt_step h hd hne, belY_step hd]
theorem rd_own {d : Dsk} (hd : dk L top = some d) {kk c : Nat} (hc : c < d.im.t.length) (hz : (d.im.t.getD c s0).1 ≠ 0) : cseen bits L top kk c = clus d.im c none := by
  unfold cseen
  rw [seenL_head hd ⟨hc, hz⟩]
theorem div_in {n s : Nat} (h : s < n * 2 ^ bits) : s / 2 ^ bits < n := (Nat.div_lt_iff_lt_mul (Nat.two_pow_pos bits)).2 h
/-- What is written to the base is seen in the top's holes alone. -/
theorem top_keep (h : CS bits room L) (hl : Lm L base L') {d : Dsk} (hd : dk L top = some d) (hb : d.back = base) (hne : base ≠ []) : dk L' top = some d ∧ CS bits room L' ∧ ∀ s, s < szOf L top * 2 ^ bits →
    ((d.im.t.getD (s / 2 ^ bits) s0).1 ≠ 0 → Sc bits L' top s = Sc bits L top s) ∧ ((d.im.t.getD (s / 2 ^ bits) s0).1 = 0 → Sc bits L' top s = Sc bits L' base s ∧ Sc bits L top s = Sc bits L base s) := by
  subst hb
  have hoff := off_of h hd hne
  have hcs := hl.cs h
  have hd' : dk L' top = some d := by
    rcases hl with rfl | ⟨e, im, h0, hs, rfl⟩
    · exact hd
    · rw [dk_lim_ne (fun e => hoff.ne e.symm), hd]
  refine ⟨hd', hcs, fun s hs => ⟨fun hz => ?_, fun hz => ?_⟩⟩
  · have hc := div_in hs
    have hsz : szOf L top = d.im.t.length := by unfold szOf; rw [hd]
    rw [hsz] at hc
    exact Sc_of (by rw [rd_own hd' hc hz, rd_own hd hc hz])
  · exact ⟨Sc_of (rd_hole hcs hd' hne hz), Sc_of (rd_hole h hd hne hz)⟩
theorem in_clus {k s : Nat} : (k * 2 ^ bits ≤ s ∧ s < k * 2 ^ bits + 2 ^ bits) ↔ s / 2 ^ bits = k := by
  have hp := Nat.two_pow_pos bits
  rw [Nat.div_eq_iff hp]
  have : (k + 1) * 2 ^ bits = k * 2 ^ bits + 2 ^ bits := Nat.succ_mul ..
  omega
theorem in_mod {k s : Nat} (h : s / 2 ^ bits = k) : s - k * 2 ^ bits = s % 2 ^ bits := by
  have h1 := Nat.div_add_mod s (2 ^ bits)
  rw [h, Nat.mul_comm] at h1
  omega
/-- What a step brings. -/
theorem br_sector (h : MJ bits room L top base l) {k : Nat} (hk : k < szOf L top) (s : Nat) : Sc bits (brC bits L top base k).L base s = if s / 2 ^ bits = k then Sc bits L top s else Sc bits L base s := by
  obtain ⟨d, hd, hb⟩ := h.dk
  have he := h.br hk
  have hp := pow_le8 h.cs.b3
  have hsz : szOf L top = d.im.t.length := by unfold szOf; rw [hd]
  have hkd : kdOf L top k = (d.im.t.getD k s0).1 := by unfold kdOf; rw [hd]
  rw [hsz] at hk
  have hO := (h.cs.ims d (dk_get hd).1).1
  by_cases c1 : kdOf L top k = 1
  · have e : brC bits L top base k = wrC bits L base ((k * 2 ^ bits : Nat) : Int) (clC bits L top (k : Int)) := if_pos c1
    rw [e, clC_eq hd hk] at he ⊢
    have hw := wr_sector h.cs he s
    have hlen : (cseen bits L top (dpt L top) k).length = 16 * 2 ^ bits := cseen_len h.cs.toChOK hd (h.cs.dep top).1 k
    rw [hlen, show 16 * 2 ^ bits / 16 = 2 ^ bits by omega] at hw
    have hw : Sc bits (wrC bits L base ((k * 2 ^ bits : Nat) : Int) (cseen bits L top (dpt L top) k)).L base s = if k * 2 ^ bits ≤ s ∧ s < k * 2 ^ bits + 2 ^ bits then sec (cseen bits L top (dpt L top) k) (s - k * 2 ^ bits) else Sc bits L base s := hw
    rw [hw]
    by_cases c : s / 2 ^ bits = k
    · rw [if_pos (in_clus.2 c), if_pos c, in_mod c]
      unfold Sc
      rw [crdP_sec, c]
    · rw [if_neg (fun e => c (in_clus.1 e)), if_neg c]
  · by_cases c2 : kdOf L top k = 2
    · have e : brC bits L top base k = zrC bits L base ((k * 2 ^ bits : Nat) : Int) ((2 ^ bits : Nat) : Int) := (if_neg c1).trans (if_pos c2)
      rw [e] at he ⊢
      have hw : Sc bits (zrC bits L base ((k * 2 ^ bits : Nat) : Int) ((2 ^ bits : Nat) : Int)).L base s = if k * 2 ^ bits ≤ s ∧ s < k * 2 ^ bits + 2 ^ bits then List.replicate 16 0 else Sc bits L base s := zr_sector h.cs he s
      rw [hw]
      by_cases c : s / 2 ^ bits = k
      · rw [if_pos (in_clus.2 c), if_pos c]
        unfold Sc
        rw [crdP_sec, c, rd_own hd hk (by rw [← hkd, c2]; decide)]
        have hg : d.im.t[k]? = some d.im.t[k] := List.getElem?_eq_getElem hk
        have hgd : d.im.t.getD k s0 = d.im.t[k] := by rw [List.getD_eq_getElem?_getD, hg]; rfl
        have hq : d.im.t[k]? = some sZr := by
          rcases hO.slot k _ hg with e | e | ⟨x, e, _⟩
          · rw [hgd, e] at hkd
            rw [hkd] at c2
            exact absurd c2 (by decide)
          · rw [hg, e]
          · rw [hgd, e] at hkd
            rw [hkd] at c2
            exact absurd c2 (show ¬ (1 : Int) = 2 by decide)
        rw [clus_zr hq]
        unfold zer
        rw [wid_eq h.cs hd, sec_zero]
        have := Nat.mod_lt s (Nat.two_pow_pos bits)
        omega
      · rw [if_neg (fun e => c (in_clus.1 e)), if_neg c]
    · have e : brC bits L top base k = ⟨0, L⟩ := (if_neg c1).trans (if_neg c2)
      rw [e]
      show Sc bits L base s = _
      split
      · rename_i c
        have hg : d.im.t[k]? = some d.im.t[k] := List.getElem?_eq_getElem hk
        have hgd : d.im.t.getD k s0 = d.im.t[k] := by rw [List.getD_eq_getElem?_getD, hg]; rfl
        have hz : (d.im.t.getD k s0).1 = 0 := by
          rcases hO.slot k _ hg with e | e | ⟨x, e, _⟩
          · rw [hgd, e]
          · exact absurd (by rw [hkd, hgd, e]) c2
          · exact absurd (by rw [hkd, hgd, e]) c1
        subst hb
        exact (Sc_of (by rw [c]; exact rd_hole h.cs hd h.ne hz)).symm
      · rfl
theorem mv_beg (h : CS bits room L) (he : mbE L top = 0) : MV bits L top (bkC L top).1 (mbL L top) := fun s hs hn => by
  obtain ⟨e1, e2, _⟩ := mbE_ok he
  obtain ⟨d, hd, hb, _⟩ := bkC_ok h e1
  have hc := div_in hs
  have hh : hol L top (s / 2 ^ bits) = true := by
    cases e : hol L top (s / 2 ^ bits) with
    | true => rfl
    | false => exact absurd (List.mem_filter.2 ⟨List.mem_range.2 hc, by rw [e]; rfl⟩) hn
  have hsz : szOf L top = d.im.t.length := by unfold szOf; rw [hd]
  unfold hol at hh
  rw [hd] at hh
  have hh : (decide (d.im.t.length ≤ s / 2 ^ bits) || decide ((d.im.t.getD (s / 2 ^ bits) s0).1 = 0)) = true := hh
  rw [decide_eq_false (by omega), Bool.false_or] at hh
  rw [hb] at e2 ⊢
  exact Sc_of (rd_hole h hd e2 (of_decide_eq_true hh))
theorem mv_br (h : MJ bits room L top base l) (hv : MV bits L top base l) {k : Nat} (hk : k < szOf L top) : MV bits (brC bits L top base k).L top base (l.erase k) ∧ ∀ s, s < szOf L top * 2 ^ bits → Sc bits (brC bits L top base k).L top s = Sc bits L top s := by
  obtain ⟨d, hd, hb⟩ := h.dk
  have hlm := brC_lm h.cs top base k
  obtain ⟨k1, k2, k3⟩ := top_keep h.cs hlm hd hb h.ne
  have hP := br_sector h hk
  have hT : ∀ s, s < szOf L top * 2 ^ bits → Sc bits (brC bits L top base k).L top s = Sc bits L top s := fun s hs => by
    by_cases hz : (d.im.t.getD (s / 2 ^ bits) s0).1 = 0
    · obtain ⟨g1, g2⟩ := (k3 s hs).2 hz
      rw [g1, hP]
      split
      · rfl
      · exact g2.symm
    · exact (k3 s hs).1 hz
  refine ⟨fun s hs hn => ?_, hT⟩
  rw [(hlm.sz top).1] at hs
  rw [hT s hs, hP]
  split
  · rfl
  · rename_i c
    exact hv s hs fun hm => hn ((List.mem_erase_of_ne c).2 hm)
theorem mv_end (h : MJ bits room L top base []) (hv : MV bits L top base []) : MV bits (dsC L top 0 ((szOf L top * 2 ^ bits : Nat) : Int)).L top base [] ∧ (∀ s, s < szOf L top * 2 ^ bits → Sc bits (dsC L top 0 ((szOf L top * 2 ^ bits : Nat) : Int)).L top s = Sc bits L top s) ∧ ∀ k, k < szOf L top → kdOf (dsC L top 0 ((szOf L top * 2 ^ bits : Nat) : Int)).L top k = 0 := by
  obtain ⟨d, hd, hb⟩ := h.dk
  subst hb
  have hO := (h.cs.ims d (dk_get hd).1).1
  have hsz : szOf L top = d.im.t.length := by unfold szOf; rw [hd]
  have hall : szOf L top * 2 ^ bits = iall d.im := by rw [iall_one h.cs hd, hsz]
  have hlm := dsC_lm h.cs top 0 ((szOf L top * 2 ^ bits : Nat) : Int)
  have hcs := hlm.cs h.cs
  have hoff := off_of h.cs hd h.ne
  obtain ⟨_, o2, o3⟩ := hlm.off h.cs hoff
  have hL : (dsC L top 0 ((szOf L top * 2 ^ bits : Nat) : Int)).L = lim L top (idsS d.im 0 (iall d.im)) none := by
    unfold dsC
    rw [hd]
    simp only
    rw [hall, if_neg (fun hh => hh (iIns_zero hO (Nat.le_refl _)))]
    rfl
  have hd' : dk (dsC L top 0 ((szOf L top * 2 ^ bits : Nat) : Int)).L top = some { d with im := idsS d.im 0 (iall d.im), pin := none } := by rw [hL]; exact dk_lim_self hd _ _
  have hk : ∀ k, k < szOf L top → ((idsS d.im 0 (iall d.im)).t.getD k s0).1 = 0 := fun k hk => by
    rw [List.getD_eq_getElem?_getD, ids_all hO (by omega)]
    rfl
  have hB : ∀ s, Sc bits (dsC L top 0 ((szOf L top * 2 ^ bits : Nat) : Int)).L d.back s = Sc bits L d.back s := fun s => Sc_of (o3 _)
  have hT : ∀ s, s < szOf L top * 2 ^ bits → Sc bits (dsC L top 0 ((szOf L top * 2 ^ bits : Nat) : Int)).L top s = Sc bits L d.back s := fun s hs => by
    rw [← hB]
    exact Sc_of (rd_hole hcs hd' h.ne (hk _ (div_in hs)))
  refine ⟨fun s hs _ => ?_, fun s hs => ?_, fun k hk2 => ?_⟩
  · rw [(hlm.sz top).1] at hs
    rw [hT s hs, hB]
  · rw [hT s hs]
    exact (hv s hs (by simp)).symm
  · unfold kdOf
    rw [hd']
    exact hk k hk2
theorem mwr_in {n : Nat} {l : List Nat} {a long : Int} {k : Nat} (h : k ∈ l ∨ (k < n ∧ a < ((k * 2 ^ bits + 2 ^ bits : Nat) : Int) ∧ ((k * 2 ^ bits : Nat) : Int) - long < a)) : k ∈ mwr bits n l a long := by
  induction n with
  | zero =>
    rcases h with h | h
    · exact h
    · exact absurd h.1 (Nat.not_lt_zero _)
  | succ n ih =>
    rw [mwr_succ]
    by_cases c : k = n
    · rcases h with h | ⟨h1, h2⟩
      · have := ih (.inl h)
        split
        · exact lput_mem.2 (.inl this)
        · exact this
      · subst c
        rw [if_pos h2]
        exact lput_mem.2 (.inr rfl)
    · have := ih (h.imp id fun h => ⟨by omega, h.2⟩)
      split
      · exact lput_mem.2 (.inl this)
      · exact this
/-- A write to the top, told to the job. -/
theorem mv_wr (h : MJ bits room L top base l) (hv : MV bits L top base l) {a N : Nat} (hlm : Lm L top L') (hw : ∀ s, ¬ (a ≤ s ∧ s < a + N) → Sc bits L' top s = Sc bits L top s) : MV bits L' top base (mwC bits L' top l false (a : Int) (N : Int)) := fun s hs hn => by
  obtain ⟨d, hd, hb⟩ := h.dk
  subst hb
  obtain ⟨_, o2, o3⟩ := hlm.off h.cs (off_of h.cs hd h.ne)
  rw [(hlm.sz top).1] at hs
  have hB : Sc bits L' d.back s = Sc bits L d.back s := Sc_of (o3 _)
  unfold mwC at hn
  by_cases c0 : (N : Int) < 1
  · rw [if_pos (.inr c0)] at hn
    rw [hB, hw s (by omega)]
    exact hv s hs hn
  · rw [if_neg (by rintro (e | e); cases e; exact c0 e)] at hn
    have h1 : s / 2 ^ bits ∉ l := fun e => hn (mwr_in (.inl e))
    rw [hB, hw s fun ⟨r1, r2⟩ => hn (mwr_in (.inr ⟨by rw [(hlm.sz top).1]; exact div_in hs, ?_, ?_⟩))]
    · exact hv s hs h1
    · have := (in_clus (bits := bits)).2 (rfl : s / 2 ^ bits = s / 2 ^ bits)
      omega
    · have := (in_clus (bits := bits)).2 (rfl : s / 2 ^ bits = s / 2 ^ bits)
      omega
theorem all_of (hs : szOf L' top = szOf L top) (hk : (dk L' top).isSome = (dk L top).isSome) (h : ∀ s, s < szOf L top * 2 ^ bits → Sc bits L' top s = Sc bits L top s) : allC bits L' top = allC bits L top := allC_congr hs hk h
theorem mstep_end (bits : Nat) (L : List Dsk) (top base : List UInt8) : mstep bits L top base [] false = ⟨true, 0, (dsC L top 0 ((szOf L top * 2 ^ bits : Nat) : Int)).L, [], true⟩ := rfl
theorem mv_step (h : MJ bits room L top base l) (hv : MV bits L top base l) (over : Bool) : MV bits (mstep bits L top base l over).L top base (mstep bits L top base l over).l ∧ allC bits (mstep bits L top base l over).L top = allC bits L top := by
  cases over with
  | true => exact ⟨hv, rfl⟩
  | false =>
    by_cases hne : l = []
    · subst hne
      rw [mstep_end]
      obtain ⟨g1, g2, _⟩ := mv_end h hv
      have hlm := dsC_lm h.cs top 0 ((szOf L top * 2 ^ bits : Nat) : Int)
      exact ⟨g1, all_of (hlm.sz top).1 (hlm.sz top).2 g2⟩
    · rw [h.stepE hne]
      obtain ⟨g1, g2⟩ := mv_br h hv (h.lt _ (mnN_spec hne).2.1)
      have hlm := brC_lm h.cs top base (mnN l)
      exact ⟨g1, all_of (hlm.sz top).1 (hlm.sz top).2 g2⟩
end
/-! Law 15's writes: a write to the top, told to the job. -/
def wtC (bits : Nat) (L : List Dsk) (top : List UInt8) (o : Jop) : CR := if qK (jQ o) = 1 then wrC bits L top (qA (jQ o)) (qB (jQ o)) else if qK (jQ o) = 2 then zrC bits L top (qA (jQ o)) (qL (jQ o)) else ⟨1, L⟩
def wtN (o : Jop) : Int := if qK (jQ o) = 1 then (((qB (jQ o)).length / 16 : Nat) : Int) else qL (jQ o)
def wtL (bits : Nat) (L : List Dsk) (top : List UInt8) (l : List Nat) (over : Bool) (o : Jop) : List Nat := if (wtC bits L top o).e = 0 then mwC bits (wtC bits L top o).L top l over (qA (jQ o)) (wtN o) else l
section
variable {bits room : Nat} {L : List Dsk} {top base : List UInt8} {l : List Nat}
theorem wtC_lm (h : CS bits room L) (top : List UInt8) (o : Jop) : Lm L top (wtC bits L top o).L := by
  unfold wtC
  split
  · exact wrC_lm h _ _ _
  · split
    · exact zrC_lm h _ _ _
    · exact .inl rfl
theorem wt_range (h : CS bits room L) {top : List UInt8} {o : Jop} (hb : (qB (jQ o)).length ≤ 1000000) (he : (wtC bits L top o).e = 0) : wtN o ≤ 1000000 := by
  unfold wtC at he
  unfold wtN
  by_cases c1 : qK (jQ o) = 1
  · rw [if_pos c1]
    omega
  · rw [if_neg c1] at he ⊢
    by_cases c2 : qK (jQ o) = 2
    · rw [if_pos c2] at he
      obtain ⟨d, hd, _, hl, hin, _⟩ := zrC_inv he
      have hall := iIns_all hin
      have hia := iall_one h hd
      have htl := (h.ims d (dk_get hd).1).1.tl
      have hp := pow_le8 h.b3
      have mk : d.im.t.length * 2 ^ bits ≤ 256 * 8 := Nat.mul_le_mul htl hp.2
      omega
    · rw [if_neg c2] at he
      exact absurd he (show ¬ (1 : Int) = 0 by decide)
theorem wt_ne {o : Jop} (h1 : qK (jQ o) ≠ 1) (h2 : qK (jQ o) ≠ 2) : wtC bits L top o = ⟨1, L⟩ := (if_neg h1).trans (if_neg h2)
@[reducible] def wtB (bits room : Int) (L : List Dsk) (top base : List UInt8) (l : List Nat) (over : Bool) (o : Jop) : BL := mjB bits room L top base l over ++ [(7, .cells (jopL o))]
@[reducible] def wtK (top : List UInt8) (n e : Int) : KL := [(0, vP 1001), (1, vP 2001), (2, vS top), (7, vP 7), (9, vI n), (10, vI e)]
set_option maxHeartbeats 1000000 in
theorem writes15_fn (h : MI bits room L top l) (base : List UInt8) (over : Bool) (o : Jop) (hb : (qB (jQ o)).length ≤ 1000000) : Fn Tryz.prog 16 [vP 1001, vP 2001, vS top, jopV o] (mjB bits room L top base l over) [] (vB (decide ((wtC bits L top o).e = 0))) (mjB bits room (wtC bits L top o).L top base (wtL bits L top l over o) over) := by
  have hr := fun he => wt_range (top := top) h.cs hb he
  have hM := h.lm (wtC_lm h.cs top o)
  obtain ⟨d', hd'⟩ := Option.isSome_iff_exists.1 hM.kn
  have hw := fun he => mwrote_fn hM.cs base l over (qA (jQ o)) (wtN o) (by have := hr he; omega) hd'
  have e1 : (wtC bits L top o).e = 0 → wtL bits L top l over o = mwC bits (wtC bits L top o).L top l over (qA (jQ o)) (wtN o) := fun e => if_pos e
  have e2 : ¬ (wtC bits L top o).e = 0 → wtL bits L top l over o = l := fun e => if_neg e
  have c1 : qK (jQ o) = 1 → wtC bits L top o = wrC bits L top (qA (jQ o)) (qB (jQ o)) ∧ wtN o = (((qB (jQ o)).length / 16 : Nat) : Int) := fun e => ⟨if_pos e, if_pos e⟩
  have c2 : ¬ qK (jQ o) = 1 → qK (jQ o) = 2 → wtC bits L top o = zrC bits L top (qA (jQ o)) (qL (jQ o)) ∧ wtN o = qL (jQ o) := fun e e' => ⟨(if_neg e).trans (if_pos e'), if_neg e⟩
  have c3 : ¬ qK (jQ o) = 1 → ¬ qK (jQ o) = 2 → (wtC bits L top o).e = 1 ∧ (wtC bits L top o).L = L := fun e e' => by rw [wt_ne e e']; exact ⟨rfl, rfl⟩
  have hwr := chwrite_fn h.cs top (qA (jQ o)) (qB (jQ o)) (by omega)
  have hzr := chzero_fn h.cs top (qA (jQ o)) (qL (jQ o))
  clear hr hM hd'
  generalize wtL bits L top l over o = l' at *
  generalize wtC bits L top o = r at *
  generalize wtN o = wn at *
  generalize wrC bits L top (qA (jQ o)) (qB (jQ o)) = r1 at *
  generalize zrC bits L top (qA (jQ o)) (qL (jQ o)) = r2 at *
  have hq : (((qB (jQ o)).length : Nat) : Int) / 16 = (((qB (jQ o)).length / 16 : Nat) : Int) := by omega
  have mq : (-9223372036854775808 : Int) ≤ (((qB (jQ o)).length : Nat) : Int) / 16 ∧ (((qB (jQ o)).length : Nat) : Int) / 16 ≤ 9223372036854775807 := by omega
  refine Fn.of tblOK [3,5,6,8,9,10] _ _ _ _ _ Tryz.func16 rfl rfl (by kernel_rfl) (by kernel_rfl) rfl (drawOK tblOK) rfl ?_
  refine ⟨rfl, ?_⟩
  show TrQ _ _ _ _ _ _ _
  refine TrQ.go tblOK (drawOK tblOK) [5,6,8,9,10] (by kernel_rfl) (Le.sub (K' := wtK top (qL (jQ o)) 1) (B' := wtB bits room L top base l over o) ⟨rfl, rfl, rfl, rfl, rfl, rfl, trivial⟩ ⟨rfl, rfl, rfl, rfl, rfl, rfl, rfl, trivial⟩) ?_
  refine ⟨fun d1 => ?_, fun d1 => ?_⟩
  · have d1 : qK (jQ o) = 1 := of_decide_eq_true d1
    obtain ⟨rfl, rfl⟩ := c1 d1
    show TrQ _ _ _ _ _ _ _
    refine TrQ.go tblOK (drawOK tblOK) [6,9,10] (by kernel_rfl) (Le.refl _ _) ?_
    refine ⟨⟨by omega, by omega⟩, mq, ?_⟩
    show TrQ _ _ _ _ _ _ _
    refine TrQ.go tblOK (drawOK tblOK) [9,10] (by kernel_rfl) (Le.sub (K' := wtK top (((qB (jQ o)).length / 16 : Nat) : Int) 1) (B' := wtB bits room L top base l over o) ⟨rfl, rfl, rfl, rfl, hq, rfl, trivial⟩ ⟨rfl, rfl, rfl, rfl, rfl, rfl, rfl, trivial⟩) ?_
    refine ⟨_, _, _, _, hwr, ⟨rfl, rfl, rfl, rfl, trivial⟩, rfl, ?_⟩
    show TrQ _ _ _ _ _ _ _
    refine TrQ.go tblOK (drawOK tblOK) [10] (by kernel_rfl) (Le.sub (K' := wtK top (((qB (jQ o)).length / 16 : Nat) : Int) r.e) (B' := wtB bits room r.L top base l over o) ⟨rfl, rfl, rfl, rfl, rfl, rfl, trivial⟩ ⟨rfl, rfl, rfl, rfl, rfl, rfl, rfl, trivial⟩) ?_
    refine ⟨fun he => ?_, fun he => ?_⟩
    · have he : r.e = 0 := of_decide_eq_true he
      show TrQ _ _ _ _ _ _ _
      refine TrQ.go tblOK (drawOK tblOK) [] (by kernel_rfl) (Le.refl _ _) ?_
      refine ⟨_, _, _, _, hw he, ⟨rfl, rfl, rfl, rfl, rfl, rfl, trivial⟩, rfl, ?_⟩
      exact ⟨_, _, _, Le.refl _ _, rfl, rfl, ⟨rfl, rfl, rfl, rfl, rfl, congrArg (fun z => some (Ch.map uI uI (esL z))) (e1 he).symm, trivial⟩, rfl⟩
    · have he : ¬ r.e = 0 := of_decide_eq_false he
      exact ⟨_, _, _, Le.refl _ _, rfl, rfl, ⟨rfl, rfl, rfl, rfl, rfl, congrArg (fun z => some (Ch.map uI uI (esL z))) (e2 he).symm, trivial⟩, rfl⟩
  have d1 : ¬ qK (jQ o) = 1 := of_decide_eq_false d1
  refine ⟨fun d2 => ?_, fun d2 => ?_⟩
  · have d2 : qK (jQ o) = 2 := of_decide_eq_true d2
    obtain ⟨rfl, rfl⟩ := c2 d1 d2
    show TrQ _ _ _ _ _ _ _
    refine TrQ.go tblOK (drawOK tblOK) [9,10] (by kernel_rfl) (Le.refl _ _) ?_
    refine ⟨_, _, _, _, hzr, ⟨rfl, rfl, rfl, rfl, trivial⟩, rfl, ?_⟩
    show TrQ _ _ _ _ _ _ _
    refine TrQ.go tblOK (drawOK tblOK) [10] (by kernel_rfl) (Le.sub (K' := wtK top (qL (jQ o)) r.e) (B' := wtB bits room r.L top base l over o) ⟨rfl, rfl, rfl, rfl, rfl, rfl, trivial⟩ ⟨rfl, rfl, rfl, rfl, rfl, rfl, rfl, trivial⟩) ?_
    refine ⟨fun he => ?_, fun he => ?_⟩
    · have he : r.e = 0 := of_decide_eq_true he
      show TrQ _ _ _ _ _ _ _
      refine TrQ.go tblOK (drawOK tblOK) [] (by kernel_rfl) (Le.refl _ _) ?_
      refine ⟨_, _, _, _, hw he, ⟨rfl, rfl, rfl, rfl, rfl, rfl, trivial⟩, rfl, ?_⟩
      exact ⟨_, _, _, Le.refl _ _, rfl, rfl, ⟨rfl, rfl, rfl, rfl, rfl, congrArg (fun z => some (Ch.map uI uI (esL z))) (e1 he).symm, trivial⟩, rfl⟩
    · have he : ¬ r.e = 0 := of_decide_eq_false he
      exact ⟨_, _, _, Le.refl _ _, rfl, rfl, ⟨rfl, rfl, rfl, rfl, rfl, congrArg (fun z => some (Ch.map uI uI (esL z))) (e2 he).symm, trivial⟩, rfl⟩
  · have d2 : ¬ qK (jQ o) = 2 := of_decide_eq_false d2
    obtain ⟨g1, g2⟩ := c3 d1 d2
    have e3 : l' = l := e2 (by rw [g1]; decide)
    clear e1 e2 c1 c2 c3 hw hwr hzr
    obtain ⟨rE, rL⟩ := r
    have g1 : rE = 1 := g1
    have g2 : rL = L := g2
    subst g1 g2 e3
    show TrQ _ _ _ _ _ _ _
    refine TrQ.go tblOK (drawOK tblOK) [10] (by kernel_rfl) (Le.refl _ _) ?_
    refine ⟨fun h => absurd h (by decide), fun _ => ?_⟩
    exact ⟨_, _, _, Le.refl _ _, rfl, rfl, ⟨rfl, rfl, rfl, rfl, rfl, rfl, trivial⟩, rfl⟩
/-- What a write leaves of the law. -/
theorem wt_mv (h : MJ bits room L top base l) (hv : MV bits L top base l) (o : Jop) : MJ bits room (wtC bits L top o).L top base (wtL bits L top l false o) ∧ MV bits (wtC bits L top o).L top base (wtL bits L top l false o) := by
  have hlm := wtC_lm h.cs top o
  have h1 := h.lm hlm
  unfold wtL
  by_cases he : (wtC bits L top o).e = 0
  · rw [if_pos he]
    refine ⟨h1.wr false _ _, ?_⟩
    unfold wtC at he hlm ⊢
    unfold wtN
    by_cases c1 : qK (jQ o) = 1
    · rw [if_pos c1] at he hlm ⊢
      rw [if_pos c1]
      have hs := wr_sector h.cs he
      obtain ⟨_, _, _, ha, _⟩ := wrC_inv he
      have := mv_wr (a := (qA (jQ o)).toNat) (N := (qB (jQ o)).length / 16) h hv hlm fun s hn => by
        show crdP _ _ _ _ _ = crdP _ _ _ _ _
        rw [hs, if_neg hn]
      rwa [← ha] at this
    · rw [if_neg c1] at he hlm ⊢
      rw [if_neg c1]
      by_cases c2 : qK (jQ o) = 2
      · rw [if_pos c2] at he hlm ⊢
        have hs := zr_sector h.cs he
        obtain ⟨_, _, ha, hl, _⟩ := zrC_inv he
        have := mv_wr (a := (qA (jQ o)).toNat) (N := (qL (jQ o)).toNat) h hv hlm fun s hn => by
          show crdP _ _ _ _ _ = crdP _ _ _ _ _
          rw [hs, if_neg hn]
        rwa [← ha, ← hl] at this
      · rw [if_neg c2] at he
        exact absurd he (show ¬ (1 : Int) = 0 by decide)
  · rw [if_neg he]
    have hL : (wtC bits L top o).L = L := by
      unfold wtC at he ⊢
      split at he
      · rename_i c1; rw [if_pos c1]; exact wrC_err h.cs he
      · rename_i c1
        rw [if_neg c1]
        split at he
        · rename_i c2; rw [if_pos c2]; exact zrC_err h.cs he
        · rename_i c2; rw [if_neg c2]
    rw [hL]
    exact ⟨h, hv⟩
end
end Go.Proofs.YtaciecbbiplgiaaGreat
