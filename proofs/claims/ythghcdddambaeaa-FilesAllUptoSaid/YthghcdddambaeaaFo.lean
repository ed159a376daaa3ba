/-
  FilesOwn: what is written to one file is not seen in another one.
-/
import Derived.Test.YthghcdddambaeaaFs
set_option linter.unusedVariables false
set_option linter.unusedSimpArgs false
set_option maxRecDepth 10000
namespace Go.Proofs.Ythghcdddambaeaa
open Go.RowKit Go.Proofs
theorem fget_of_pair {n : List UInt8} {a : Nat} : ∀ {l : FMap}, (mkeys l).Nodup → mkA n (some a) ∈ l → fget l n = some a
  | [], _, h => by cases h
  | p :: l, hn, h => by
    rw [mkeys_cons, List.nodup_cons] at hn
    rw [fget_cons]
    rcases List.mem_cons.1 h with e | h
    · rw [← e, show eqA n (mkA n (some a)) = true from eqA_iff.2 rfl]
      rfl
    · have : eqA n p = false := Bool.eq_false_iff.2 fun e => hn.1 (by
        rw [← eqA_iff.1 e]
        exact List.mem_map_of_mem (f := keyL) h)
      rw [this]
      exact fget_of_pair hn.2 h
theorem sget_of_pair {a : Nat} {m : StM} : ∀ {L : SPool}, (L.map (·.1)).Nodup → (a, m) ∈ L → sget L a = some m
  | [], _, h => by cases h
  | p :: L, hn, h => by
    rw [List.map_cons, List.nodup_cons] at hn
    rw [sget_cons]
    rcases List.mem_cons.1 h with e | h
    · rw [← e, if_pos rfl]
    · rw [if_neg fun e => hn.1 (by rw [e]; exact List.mem_map_of_mem (f := (·.1)) h)]
      exact sget_of_pair hn.2 h
theorem zip_at {L : SPool} {p : El .str × El .adr} : ∀ {d : FMap} {al : List Nat}, al.length = d.length → p ∈ d → ∃ a, mkA (pK p) (some a) ∈ zipE d al ∧ (a, stAt L (pA p)) ∈ zipL L d al
  | [], _, _, h => by cases h
  | q :: d, [], h, _ => by cases h
  | q :: d, a :: al, h, hp => by
    rcases List.mem_cons.1 hp with rfl | hp
    · exact ⟨a, List.mem_cons_self .., List.mem_cons_self ..⟩
    · obtain ⟨b, h1, h2⟩ := zip_at (L := L) (by simpa using h) hp
      exact ⟨b, List.mem_cons_of_mem _ h1, List.mem_cons_of_mem _ h2⟩
/-- A copy has what was copied. -/
theorem copy_at {es : FMap} {L : SPool} {W : Nat} (h : FOK es L W) {d : FMap} (hd : d.Perm es) {al : List Nat} (hl : al.length = d.length) (hn : al.Nodup) {n : List UInt8} {a : Nat} {m : StM} (ha : fget es n = some a) (hm : sget L a = some m) :
    ∃ b, fget (zipE d al) n = some b ∧ sget (zipL L d al) b = some m := by
  have h2 := h.copy hd hl hn
  obtain ⟨b, h3, h4⟩ := zip_at (L := L) hl (hd.mem_iff.2 (fget_mem ha))
  refine ⟨b, fget_of_pair h2.nm.nd h3, ?_⟩
  have h5 := sget_of_pair h2.pl.nl h4
  rw [h5]
  show some ((sget L a).getD stD) = some m
  rw [hm]
  rfl
theorem sset_get {a b : Nat} {m m' : StM} : ∀ {L : SPool}, sget L a = some m → sget (sset L a m') b = if b = a then some m' else sget L b
  | [], h => by cases h
  | p :: L, h => by
    rw [sget_cons] at h
    show sget (if p.1 = a then (p.1, m') :: L else p :: sset L a m') b = _
    by_cases e : p.1 = a
    · rw [if_pos e, sget_cons, sget_cons]
      by_cases e2 : b = a
      · rw [if_pos e2, if_pos (by rw [e, e2])]
      · rw [if_neg e2, if_neg (fun e3 => e2 (by rw [← e3, e])), if_neg (fun e3 => e2 (by rw [← e3, e]))]
    · rw [if_neg e] at h ⊢
      rw [sget_cons, sget_cons, sset_get h]
      by_cases e2 : b = a
      · rw [if_pos e2, if_pos e2, if_neg (fun e3 => e (by rw [e3, e2]))]
      · rw [if_neg e2, if_neg e2]
/-- Who has one address has one name. -/
theorem addr_name {es : FMap} {L : SPool} {W : Nat} (h : PoolOK es L W) {n n' : List UInt8} {a : Nat} (h1 : fget es n = some a) (h2 : fget es n' = some a) : n = n' := by
  have := nodup_key h.nd (fget_mem h1) (fget_mem h2) rfl
  exact congrArg pK this
theorem poolLen {m : StM} {L : SPool} {b : Nat} (hL : sget L b = some m) : Fn Try.prog 54 [vAd b] [(1003, .obj (.pool (poolS L)))] [] (vI m.n) [(1003, .obj (.pool (poolS L)))] := by
  have := poolFn (slen_fn m) hL rfl rfl
  rwa [sset_same hL] at this
def wholeB (m : StM) : List UInt8 := readB m.seen 0 m.n.toNat
theorem poolRead {m : StM} {L : SPool} {b : Nat} (hL : sget L b = some m) (h : StOK m) : Fn Try.prog 53 [vAd b, vI 0, vI m.n] [(1003, .obj (.pool (poolS L)))] [] (.tup [.one (.d (.lst .u8 (wholeB m))), vErr 0]) [(1003, .obj (.pool (poolS L)))] := by
  have hi : m.insideB 0 m.n = true := by
    have := h.n0
    simp [StM.insideB]
  have := poolFn (sread_ok m 0 m.n h.n0 hi h.n0 h.n1 h.seen.wf) hL rfl rfl
  rwa [sset_same hL] at this
@[reducible] def mkS (o : Op3) : Op4 := ((0 : Int), (0 : Int), ([] : List UInt8), ([] : List UInt8), ([] : List Kp), o)
theorem mkS_bulk (o : Op3) : bulkU (.sl uO4) [mkS o] ≤ 20 + bulkU uO3 o := by
  have e : bulkU (.sl uO4) [mkS o] = 1 + (bulkU uO4 (mkS o) + 0) := rfl
  rw [e, bulk_op4, bulk_op3]
  have : tot (mkS o) = (oB o).length + (oKeep o).length + 0 + 0 + 0 := rfl
  rw [this]
  show 1 + (10 + ((oB o).length + (oKeep o).length + 0 + 0 + 0) + 2 * 0 + 0) ≤ _
  omega
@[reducible] def foK (l : List Op4) (nm : List UInt8) (k : Nat) : KL := [(0, vL uO4 l), (1, vS nm), (5, vP 5), (7, vP 1001), (55, vL uO4 l), (56, vI (l.length : Nat)), (57, vI (k : Nat))]
@[reducible] def foK2 (nm : List UInt8) (n : List (List UInt8)) (i : Nat) : KL := [(1, vS nm), (7, vP 1001), (13, vP 2001), (88, vL .str n), (89, vI (n.length : Nat)), (90, vI (i : Nat))]
@[reducible] def foB (es : FMap) (L : SPool) (es2 : FMap) (L2 : SPool) (o : Op3) : BL := flS 1001 1002 1003 100 es L ++ flS 2001 2002 2003 100 es2 L2 ++ [(5, .cells (op3L o))]
set_option maxHeartbeats 2000000 in
theorem fown_spec (l : List Op4) (nm : List UInt8) (o : Op3) (h : ScrOK l 1048576) (hn : nm.length ≤ 1048576) (ho : bulkU uO3 o ≤ 1048576) : Fn Try.prog 14 [vL uO4 l, vS nm, op3V o] [] [] (vB true) [] := by
  have hs0 : ScrOK [mkS o] 1048600 := ScrOK.of (Nat.le_trans (mkS_bulk o) (by omega))
  have hO3 := hs0.ops _ (List.mem_cons_self ..)
  have hob : (oB o).length ≤ 1048600 := hO3.b
  have hok : (oKeep o).length ≤ 1048600 := hO3.keep
  refine Fn.of tblOK [12,13] _ _ _ _ _ Try.func14 rfl rfl (by kernel_rfl) (by kernel_rfl) rfl (drawOK tblOK) rfl ?_
  refine ⟨rfl, ?_⟩
  refine ⟨_, _, _, _, fnew_ok 100 (by decide), trivial, rfl, ?_⟩
  refine ⟨fun h => absurd h (by decide), fun _ => ?_⟩
  refine ⟨_, _, _, _, few4_of h (by decide), trivial, rfl, ?_⟩
  refine ⟨fun _ => ?_, fun _ => ?_⟩
  · refine ⟨fun _ => ?_, fun h => absurd h (by decide)⟩
    refine ⟨_, _, _, _, alive4_spec, trivial, rfl, ?_⟩
    exact ⟨_, _, _, Le.refl _ _, rfl, rfl, trivial, rfl⟩
  refine ⟨_, _, _, _, few4_of hs0 (by decide), trivial, rfl, ?_⟩
  refine ⟨fun _ => ?_, fun _ => ?_⟩
  · refine ⟨fun _ => ?_, fun h => absurd h (by decide)⟩
    refine ⟨_, _, _, _, alive4_spec, trivial, rfl, ?_⟩
    exact ⟨_, _, _, Le.refl _ _, rfl, rfl, trivial, rfl⟩
  show TrQ _ _ _ _ _ _ _
  refine TrQ.le (Le.emp 1003 rfl) ?_
  refine TrQ.loop tblOK (drawOK tblOK) [7] (by kernel_rfl) (X := Nat × FMap × SPool) (fun x => foK l nm x.1) (fun x => flS 1001 1002 1003 100 x.2.1 x.2.2 ++ [(5, .cells (op3L o))]) (fun x => x.1 ≤ l.length ∧ FOK x.2.1 x.2.2 (wrt l x.1)) (fun x => l.length - x.1) (0, [], []) ⟨Nat.zero_le _, FOK.nil _⟩ ?_ ?_
  · exact Le.sub ⟨rfl, rfl, rfl, rfl, rfl, rfl, rfl, trivial⟩ ⟨rfl, rfl, rfl, rfl, trivial⟩
  rintro ⟨k, es, L⟩ ⟨hk, hF⟩
  have hk : k ≤ l.length := hk
  have hF : FOK es L (wrt l k) := hF
  have hll := h.len
  refine ⟨fun hc => ?_, fun hc => ?_⟩
  · have hk1 : k < l.length := by
      have hc : decide ((k : Int) < (l.length : Int)) = true := hc
      simpa using hc
    have hO := h.ops _ (List.getElem_mem hk1)
    have hw : wrt l k ≤ 1048576 := h.take k
    refine ⟨by omega, l[k], lgAt (n := k) hk1, ?_⟩
    refine ⟨rfl, ?_⟩
    show TrQ _ _ _ _ _ _ _
    refine TrQ.regionX tblOK (by kernel_rfl) ?_
    refine ⟨_, _, _, fun g => _, fun g => _, does_fn 100 es L l[k] (wrt l k) hF (by omega) (hO.mono (by decide)), ⟨rfl, rfl, rfl, trivial⟩, rfl, fun _ => rfl, fun g => ?_⟩
    have hF2 := doF_ok (room := 100) (o := l[k]) (b := g.1) hF g.2
    rw [← wrt_succ l hk1] at hF2
    exact ⟨by omega, (k + 1, (doF 100 es L l[k] g.1).es, (doF 100 es L l[k] g.1).L), ⟨hk1, hF2⟩, by show l.length - (k + 1) < l.length - k; omega, Le.sub ⟨rfl, rfl, rfl, rfl, rfl, rfl, rfl, trivial⟩ ⟨rfl, rfl, rfl, rfl, trivial⟩⟩
  have hw : wrt l k ≤ 1048576 := h.take _
  have hkl : (keysS es).length ≤ 16 := by rw [keysS_length]; exact hF.nm.few
  cases hg : fget es nm with
  | none =>
    refine ⟨_, _, _, _, fopen_no 100 es nm hg, ⟨rfl, rfl, trivial⟩, rfl, ?_⟩
    refine ⟨fun _ => ?_, fun h => absurd h (by decide)⟩
    refine ⟨_, _, _, _, alive4_spec, trivial, rfl, ?_⟩
    refine ⟨fun _ => ?_, fun h => absurd h (by decide)⟩
    exact ⟨_, _, _, Le.refl _ _, rfl, rfl, trivial, rfl⟩
  | some a =>
    obtain ⟨m, hm, hst, hlo⟩ := fget_ex hF.pl hg
    refine ⟨_, _, _, _, fopen_ok 100 es nm a hg, ⟨rfl, rfl, trivial⟩, rfl, ?_⟩
    refine ⟨fun h => absurd h (by decide), fun _ => ?_⟩
    refine ⟨fun _ _ => ?_, fun h => by cases h⟩
    show TrQ _ _ _ _ _ _ _
    refine TrQ.regionX tblOK (by kernel_rfl) ?_
    refine ⟨_, _, _, fun d => _, fun d => _, fcopy_fn 100 es L (wrt l k) hF.pl hF.nm.nd (by omega), ⟨rfl, rfl, rfl, trivial⟩, rfl, fun _ => rfl, fun d => ?_⟩
    obtain ⟨d, hdp⟩ := d
    show TrQ _ _ _ _ _ _ _
    refine TrQ.leX (LeX.openMapO 2002 2003 rfl rfl) fun al => ?_
    obtain ⟨al, hal⟩ := al
    have hal : al.length = d.length := hal.trans (List.length_map _)
    refine TrQ.le (K' := [(1, vS nm), (5, vP 5), (7, vP 1001), (11, vAd a), (13, vP 2001)]) (B' := foB es L (zipE d al) (zipL L d al) o) (Le.sub ⟨rfl, rfl, rfl, rfl, rfl, trivial⟩ ⟨rfl, rfl, rfl, rfl, congrArg (fun e => some (Ch.map .str .adr e)) (zipA_cp L d al), congrArg (fun p => some (Ch.obj (.pool p))) (zipO_cp L d al), rfl, trivial⟩) ?_
    refine TrQ.leX (LeX.poolNd 2003 (poolS_anch (zipL L d al)) rfl) fun hnd => ?_
    have hnd : al.Nodup := by
      have := hnd.down
      rwa [poolS_fst, zipL_fst L hal] at this
    have hF2 := hF.copy hdp hal hnd
    refine TrQ.go tblOK (drawOK tblOK) [] (by kernel_rfl) (Le.refl _ _) ?_
    refine ⟨_, _, _, _, poolFn (stores_fn m o hst (by omega) (by omega) (by omega)) hm rfl rfl, ⟨rfl, trivial⟩, rfl, ?_⟩
    have hst1 := hst.op o
    generalize (m.op o).1 = m' at hst1 ⊢
    refine ⟨_, _, _, _, fnames_spec 100 es hF.nm, ⟨rfl, rfl, trivial⟩, rfl, ?_⟩
    show TrQ _ _ _ _ _ _ _
    refine TrQ.loop tblOK (drawOK tblOK) [] (by kernel_rfl) (X := Nat) (fun i => foK2 nm (keysS es) i) (fun _ => flS 1001 1002 1003 100 es (sset L a m') ++ flS 2001 2002 2003 100 (zipE d al) (zipL L d al)) (fun i => i ≤ (keysS es).length) (fun i => (keysS es).length - i) 0 (Nat.zero_le _) ?_ ?_
    · exact Le.sub ⟨rfl, rfl, rfl, rfl, rfl, rfl, trivial⟩ ⟨rfl, rfl, rfl, rfl, rfl, rfl, trivial⟩
    intro i hi
    refine ⟨fun hd => ?_, fun _ => ?_⟩
    · have hd : decide ((i : Int) < ((keysS es).length : Int)) = true := hd
      have hd : i < (keysS es).length := by simpa using hd
      have hmem : (keysS es)[i] ∈ mkeys es := mem_keysS.1 (List.getElem_mem hd)
      obtain ⟨a1, ha1⟩ := hF.pl.fget hmem
      obtain ⟨m1, hm1, hst2, _⟩ := fget_ex hF.pl ha1
      obtain ⟨a2, ha2, hm2⟩ := copy_at hF hdp hal hnd ha1 hm1
      have hget := sset_get (b := a1) (m' := m') hm
      refine ⟨by omega, (keysS es)[i], lgAt (n := i) hd, ?_⟩
      generalize hx : (keysS es)[i] = x at *
      have hm3 : ∃ m3, sget (sset L a m') a1 = some m3 ∧ StOK m3 ∧ (x ≠ nm → m3 = m1) := by
        by_cases e : a1 = a
        · rw [if_pos e] at hget
          exact ⟨m', hget, hst1, fun hne => absurd (addr_name hF.pl ha1 (e ▸ hg)) hne⟩
        · rw [if_neg e] at hget
          exact ⟨m1, hget.trans hm1, hst2, fun _ => rfl⟩
      obtain ⟨m3, hg3, hst3, heq⟩ := hm3
      refine ⟨_, _, _, _, fopen_ok 100 es x a1 ha1, ⟨rfl, rfl, trivial⟩, rfl, ?_⟩
      refine ⟨_, _, _, _, Fn.ren [(1001, 2001), (1002, 2002)] (fopen_ok 100 (zipE d al) x a2 ha2), ⟨rfl, rfl, trivial⟩, rfl, ?_⟩
      refine ⟨_, _, _, _, poolLen hg3, ⟨rfl, trivial⟩, rfl, ?_⟩
      refine ⟨_, _, _, _, poolRead hg3 hst3, ⟨rfl, trivial⟩, rfl, ?_⟩
      refine ⟨_, _, _, _, Fn.ren [(1003, 2003)] (poolLen hm2), ⟨rfl, trivial⟩, rfl, ?_⟩
      refine ⟨_, _, _, _, Fn.ren [(1003, 2003)] (poolRead hm2 hst2), ⟨rfl, trivial⟩, rfl, ?_⟩
      refine ⟨fun hne => ?_, fun _ => ?_⟩
      · have hne : x ≠ nm := by
          have hne : (!decide (x = nm)) = true := hne
          simpa using hne
        have heq := heq hne
        subst heq
        refine ⟨_, _, _, _, poolLen hg3, ⟨rfl, trivial⟩, rfl, ?_⟩
        refine ⟨_, _, _, _, Fn.ren [(1003, 2003)] (poolLen hm2), ⟨rfl, trivial⟩, rfl, ?_⟩
        refine ⟨fun hh => ?_, fun _ => ?_⟩
        · have hh : (!decide (m3.n = m3.n)) = true := hh
          simp at hh
        · refine ⟨fun hh => ?_, fun _ => ?_⟩
          · have hh : (!decide (wholeB m3 = wholeB m3)) = true := hh
            simp at hh
          · exact ⟨by omega, i + 1, by omega, by omega, Le.sub ⟨rfl, rfl, rfl, rfl, rfl, rfl, trivial⟩ ⟨rfl, rfl, rfl, rfl, rfl, rfl, trivial⟩⟩
      · exact ⟨by omega, i + 1, by omega, by omega, Le.sub ⟨rfl, rfl, rfl, rfl, rfl, rfl, trivial⟩ ⟨rfl, rfl, rfl, rfl, rfl, rfl, trivial⟩⟩
    · refine ⟨_, _, _, _, alive4_spec, trivial, rfl, ?_⟩
      exact ⟨_, _, _, Le.refl _ _, rfl, rfl, trivial, rfl⟩
end Go.Proofs.Ythghcdddambaeaa
