/-
  slices.Clone and slices.Delete of backups, as contracts.
-/
import Derived.Test.YthghcdddambaeaaDel
set_option linter.unusedVariables false
set_option linter.unusedSimpArgs false
namespace Go.Proofs.Ythghcdddambaeaa
open Go.RowKit

/-! ### as contracts -/
theorem row_one {I : Nat → Prop} {w : World} {u : U} {xs : List (El u)} {cs : List Value} (hz : 0 < sz u) (hl : cs.length = xs.length * sz u) (h : RecsU I w u xs cs) : ∀ v ∈ cs, v.oneCell' = true := fun v hv => by
  obtain ⟨k, hk, rfl⟩ := List.getElem_of_mem hv
  obtain ⟨e1, e2, e3⟩ := sz_div (show k < xs.length * sz u by omega)
  obtain ⟨v', h1, h2⟩ := DenU.one u _ _ (h (k / sz u) _ (List.getElem?_eq_getElem e1)) (k % sz u) e2
  rw [e3, List.getElem?_eq_getElem hk] at h1
  injection h1 with h1
  rw [h1]; exact h2
theorem DenU.bd {I : Nat → Prop} {w : World} {u : U} {x : El u} {c c' : Nat → Option Value} (h : DenU I w u x c) (hc : ∀ j v, j < sz u → c j = some v → c' j = some v) : DenU I w u x c' :=
  DenU.mk u x c' (DenU.wf u x c h) fun j hj => by
    obtain ⟨v, h1, h2⟩ := DenU.cell u x c j h hj
    exact ⟨v, hc j v hj h1, h2⟩
theorem recs_erase {I : Nat → Prop} {w : World} {u : U} {xs : List (El u)} {cs : List Value} {k : Nat} (hk : k < xs.length) (hl : cs.length = xs.length * sz u) (h : RecsU I w u xs cs) : RecsU I w u (xs.eraseIdx k) (cs.take (k * sz u) ++ cs.drop ((k + 1) * sz u)) := fun i x hi => by
  rw [List.getElem?_eraseIdx] at hi
  have hks : (k + 1) * sz u ≤ xs.length * sz u := Nat.mul_le_mul_right _ hk
  have hk1 : (k + 1) * sz u = k * sz u + sz u := Nat.succ_mul k (sz u)
  have hlt : (cs.take (k * sz u)).length = k * sz u := by rw [List.length_take]; omega
  split at hi
  · rename_i hik
    have : (i + 1) * sz u ≤ k * sz u := Nat.mul_le_mul_right _ hik
    rw [Nat.succ_mul] at this
    refine (h i x hi).bd fun j v hj hv => ?_
    rw [List.getElem?_append_left (by omega), List.getElem?_take, if_pos (by omega)]
    exact hv
  · rename_i hik
    have : k * sz u ≤ i * sz u := Nat.mul_le_mul_right _ (by omega)
    have e1 : (i + 1) * sz u = i * sz u + sz u := Nat.succ_mul i (sz u)
    refine (h (i + 1) x hi).bd fun j v hj hv => ?_
    rw [List.getElem?_append_right (by omega), List.getElem?_drop, hlt]
    rw [← hv]
    congr 1
    omega
theorem hdr_some {p : Pl} {g n cap : Nat} (h : p.hdr = .slice (some ⟨g, 0, none⟩) n cap) : p.hdr.ownBlock = some g := by rw [h]; rfl
set_option maxRecDepth 100000 in
theorem cloneB_fn (L : List Bup) (h0 : 0 < L.length) (hL : L.length ≤ 4294967296) :
    Fn Try.prog 64 [vOwn 1001] [(1001, .row 43 uB L)] [1002] (vOwn 1002) [(1001, .row 43 uB L), (1002, .row 43 uB L)] := by
  refine ⟨by kernel_rfl, ?_⟩
  intro ρ F I w vals hI hH hF hdj hlen hden
  match vals, hlen with
  | [v], _ =>
    obtain rfl : v = (ρ 1001).hdr := hden 0 _ v rfl rfl
    have hh := hH 1001 _ rfl
    obtain ⟨hF1, hbk, cs, how, hrec⟩ := hh
    refine (clone_bks (ρ 1001).hdr L.length cs w how hL (row_one (by decide) how.1 hrec) h0).mono ?_
    rintro e w' ⟨v', rfl, hown, hb⟩
    rcases hown.2 with ⟨_, hn⟩ | ⟨g, cap, cur, rfl, hg, hg2, hcap, hm, hcs, htk⟩
    · omega
    have hgs : g < w'.heap.size := (Array.getElem?_eq_some_iff.1 hg2).1
    have hE : Ext I w I w' := fun b hbI => ⟨hbI, hb.block b (hI b hbI)⟩
    refine ⟨_, upd ρ 1002 ⟨g, some ⟨g, 0, none⟩, L.length, cap⟩, upd F 1002 (fun b => b = g), rfl, Fr.of_below hb, ?_, I, hE, ?_, ?_, ?_, ?_, ?_⟩
    · intro c hc
      exact upd_other _ _ (fun e => hc (by simp [e]))
    · intro b hbI
      exact ⟨Nat.lt_of_lt_of_le (hI b hbI) hb.size, .inl hbI⟩
    · intro c ch hc
      rw [lookB_cons] at hc
      split at hc
      · rename_i hc1; subst hc1; injection hc with hc; subst hc
        rw [upd_other _ _ (by decide), upd_other _ _ (by decide)]
        exact ⟨hF1, hbk, cs, ownsRow_block how (fun b hb2 => hb.block b ((hF 1001 _ rfl b ((hF1 b).2 hb2)).1)), hrec.mono hE⟩
      · rw [lookB_cons] at hc
        split at hc
        · rename_i hc1; subst hc1; injection hc with hc; subst hc
          rw [upd_same, upd_same]
          exact ⟨fun b => ⟨fun e => by subst e; rfl, fun e => by injection e with e; exact e.symm⟩, fun b e => by injection e with e; exact e.symm, cs, ⟨hown.1, .inr ⟨g, cap, cur, rfl, Nat.zero_le _, hg2, hcap, hm, hcs, htk⟩⟩, hrec.mono hE⟩
        · simp [lookB] at hc
    · intro c ch hc b hbF
      rw [lookB_cons] at hc
      split at hc
      · rename_i hc1; subst hc1
        rw [upd_other _ _ (by decide)] at hbF
        have := hF 1001 _ rfl b hbF
        exact ⟨Nat.lt_of_lt_of_le this.1 hb.size, this.2, .inl ⟨1001, _, rfl, hbF⟩⟩
      · rw [lookB_cons] at hc
        split at hc
        · rename_i hc1; subst hc1
          rw [upd_same] at hbF
          subst hbF
          exact ⟨hgs, fun hbI => by have := hI _ hbI; omega, .inr hg⟩
        · simp [lookB] at hc
    · intro c c' ch ch' b hc hc' hne hb1 hb2
      rw [lookB_cons] at hc hc'
      have key : ∀ b, F 1001 b → ¬ b = g := fun b hb1 e => by have := (hF 1001 _ rfl b hb1).1; omega
      split at hc
      · rename_i hc1; subst hc1
        rw [upd_other _ _ (by decide)] at hb1
        rw [if_neg hne, lookB_cons] at hc'
        split at hc'
        · rename_i hc1; subst hc1; rw [upd_same] at hb2; exact key b hb1 hb2
        · simp [lookB] at hc'
      · rw [lookB_cons] at hc
        split at hc
        · rename_i hc1; subst hc1
          rw [upd_same] at hb1
          split at hc'
          · rename_i hc1; subst hc1; rw [upd_other _ _ (by decide)] at hb2; exact key b hb2 hb1
          · rw [lookB_cons, if_neg hne] at hc'
            simp [lookB] at hc'
        · simp [lookB] at hc
    · show _ = Pl.hdr (upd ρ 1002 _ 1002)
      rw [upd_same]
      rfl
set_option maxRecDepth 100000 in
theorem deleteB_fn (L : List Bup) (k : Nat) (hk : k < L.length) :
    Fn Try.prog 63 [vOwn 1001, vI k, vI (k + 1)] [(1001, .row 43 uB L)] [1002] (vOwn 1002) [(1002, .row 43 uB (L.eraseIdx k))] := by
  refine ⟨by kernel_rfl, ?_⟩
  intro ρ F I w vals hI hH hF hdj hlen hden
  match vals, hlen with
  | [v, v1, v2], _ =>
    obtain rfl : v = (ρ 1001).hdr := hden 0 _ v rfl rfl
    obtain rfl : v1 = .int .i64 k := hden 1 _ v1 rfl rfl
    obtain rfl : v2 = .int .i64 (k + 1) := hden 2 _ v2 rfl rfl
    have hh := hH 1001 _ rfl
    obtain ⟨hF1, hbk, cs, how, hrec⟩ := hh
    have hone := row_one (by decide) how.1 hrec
    have how1 := how
    obtain ⟨hcl, h2⟩ := how
    rcases h2 with ⟨_, hn⟩ | ⟨g, cap, cur, hhdr, hg, hg2, hcap, hm, hcs, htk⟩
    · omega
    have hgF : F 1001 g := (hF1 g).2 (by rw [hhdr]; rfl)
    obtain ⟨m, hmL⟩ : ∃ m, L.length = m + 1 := ⟨L.length - 1, by omega⟩
    rw [hhdr, hmL] at how1
    rw [hhdr, hmL]
    have hgz : g < w.heap.size := (Array.getElem?_eq_some_iff.1 hg2).1
    refine (delete_any 0 g m cap k cs w how1 (by omega) hone).mono ?_
    rintro e w' ⟨rfl, hown, hgr⟩
    have hE : Ext I w I w' := fun b hbI => ⟨hbI, hgr.block b (hI b hbI) (fun e => by injection e with e; subst e; exact (hF 1001 _ rfl _ hgF).2 hbI)⟩
    have hle : (L.eraseIdx k).length = m := by rw [List.length_eraseIdx_of_lt hk]; omega
    have hFg : ∀ b, F 1001 b ↔ b = g := fun b => by rw [hF1, hhdr]; exact ⟨fun e => by injection e with e; exact e.symm, fun e => by subst e; rfl⟩
    have look : ∀ c ch, lookB [(1002, Ch.row 43 uB (L.eraseIdx k))] c = some ch → c = 1002 ∧ ch = Ch.row 43 uB (L.eraseIdx k) := fun c ch hc => by
      rw [lookB_cons] at hc
      split at hc
      · rename_i hc1; injection hc with hc; exact ⟨hc1.symm, hc.symm⟩
      · simp [lookB] at hc
    refine ⟨_, upd ρ 1002 ⟨g, some ⟨g, 0, none⟩, m, cap⟩, upd F 1002 (fun b => b = g), rfl, fr_grown hgr (fun b e => by injection e with e; subst e; exact ⟨1001, _, rfl, hgF⟩), ?_, I, hE, ?_, ?_, ?_, ?_, ?_⟩
    · intro c hc
      exact upd_other _ _ (fun e => hc (by simp [e]))
    · intro b hbI
      exact ⟨Nat.lt_of_lt_of_le (hI b hbI) hgr.size, .inl hbI⟩
    · intro c ch hc
      obtain ⟨rfl, rfl⟩ := look c ch hc
      rw [upd_same, upd_same]
      refine ⟨fun b => ⟨fun e => by subst e; rfl, fun e => by injection e with e; exact e.symm⟩, fun b e => by injection e with e; exact e.symm, _, ?_, recs_erase hk hcl (hrec.mono hE)⟩
      rw [hle]
      exact hown
    · intro c ch hc b hbF
      obtain ⟨rfl, rfl⟩ := look c ch hc
      rw [upd_same] at hbF
      subst hbF
      have := hF 1001 _ rfl _ hgF
      exact ⟨Nat.lt_of_lt_of_le this.1 hgr.size, this.2, .inl ⟨1001, _, rfl, hgF⟩⟩
    · intro c c' ch ch' b hc hc' hne
      exact absurd ((look c ch hc).1.trans (look c' ch' hc').1.symm) hne
    · show _ = Pl.hdr (upd ρ 1002 _ 1002)
      rw [upd_same]
      rfl
end Go.Proofs.Ythghcdddambaeaa
