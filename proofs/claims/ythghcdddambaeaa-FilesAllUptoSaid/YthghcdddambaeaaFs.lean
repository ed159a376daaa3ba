/-
  FilesCrashes: behind a crash the names are as they were; a copy crashes alone.
-/
import Derived.Test.YthghcdddambaeaaFr
import Derived.Test.YthghcdddambaeaaGx
set_option linter.unusedVariables false
set_option linter.unusedSimpArgs false
set_option maxRecDepth 10000
namespace Go.Proofs.Ythghcdddambaeaa
open Go.RowKit Go.Proofs
/-- A copy's files, by their addresses. -/
def zipL (L : SPool) : FMap → List Nat → SPool
  | p :: d, a :: al => (a, stAt L (pA p)) :: zipL L d al
  | _, _ => []
def zipE : FMap → List Nat → FMap
  | p :: d, a :: al => mkA (pK p) (some a) :: zipE d al
  | _, _ => []
theorem zipO_cp (L : SPool) : ∀ (d : FMap) (al : List Nat), zipO (cpO L d) al = poolS (zipL L d al)
  | [], _ => rfl
  | p :: d, [] => rfl
  | p :: d, a :: al => by
    show (a, stO (stAt L (pA p))) :: zipO (cpO L d) al = (a, stO (stAt L (pA p))) :: poolS (zipL L d al)
    rw [zipO_cp L d al]
theorem zipA_cp (L : SPool) : ∀ (d : FMap) (al : List Nat), zipA (cpO L d) al = zipE d al
  | [], _ => rfl
  | p :: d, [] => rfl
  | p :: d, a :: al => by
    show (p.1, adrE a) :: zipA (cpO L d) al = mkA (pK p) (some a) :: zipE d al
    rw [zipA_cp L d al]
    rfl
theorem zipE_keys : ∀ {d : FMap} {al : List Nat}, al.length = d.length → mkeys (zipE d al) = mkeys d
  | [], [], _ => rfl
  | p :: d, a :: al, h => by
    show pK p :: mkeys (zipE d al) = pK p :: mkeys d
    rw [zipE_keys (by simpa using h)]
theorem zipE_adr : ∀ {d : FMap} {al : List Nat}, al.length = d.length → (zipE d al).map pA = al.map some
  | [], [], _ => rfl
  | p :: d, a :: al, h => by
    show some a :: (zipE d al).map pA = some a :: al.map some
    rw [zipE_adr (by simpa using h)]
theorem zipL_fst (L : SPool) : ∀ {d : FMap} {al : List Nat}, al.length = d.length → (zipL L d al).map (·.1) = al
  | [], [], _ => rfl
  | p :: d, a :: al, h => by
    show a :: (zipL L d al).map (·.1) = a :: al
    rw [zipL_fst L (by simpa using h)]
theorem zipL_mem {L : SPool} {x : Nat × StM} : ∀ {d : FMap} {al : List Nat}, x ∈ zipL L d al → ∃ p ∈ d, x.2 = stAt L (pA p)
  | [], _, h => by cases h
  | p :: d, [], h => by cases h
  | p :: d, a :: al, h => by
    rcases List.mem_cons.1 h with rfl | h
    · exact ⟨p, List.mem_cons_self .., rfl⟩
    · obtain ⟨q, hq, e⟩ := zipL_mem h
      exact ⟨q, List.mem_cons_of_mem _ hq, e⟩
theorem stAt_ok {es : FMap} {L : SPool} {W : Nat} (h : PoolOK es L W) {p : El .str × El .adr} (hp : p ∈ es) : StOK (stAt L (pA p)) ∧ (stAt L (pA p)).loose.length ≤ W := by
  obtain ⟨a, h1, h2⟩ := h.ex p hp
  obtain ⟨m, hm⟩ := sget_of_mem h2
  have e : stAt L (pA p) = m := by rw [h1]; show (sget L a).getD stD = m; rw [hm]; rfl
  rw [e]
  exact ⟨h.ok _ (sget_mem hm), h.few _ (sget_mem hm)⟩
theorem mkeys_perm {d es : FMap} (h : d.Perm es) : (mkeys d).Perm (mkeys es) := h.map _
theorem FOK.copy {es : FMap} {L : SPool} {W : Nat} (h : FOK es L W) {d : FMap} (hd : d.Perm es) {al : List Nat} (hl : al.length = d.length) (hn : al.Nodup) : FOK (zipE d al) (zipL L d al) W := by
  refine ⟨⟨?_, ?_, ?_⟩, ⟨?_, ?_, ?_, ?_, ?_⟩⟩
  · rw [zipE_keys hl]
    exact (mkeys_perm hd).nodup_iff.2 h.nm.nd
  · rw [zipE_keys hl]
    exact fun s hs => h.nm.ok s ((mkeys_perm hd).mem_iff.1 hs)
  · have e1 : (zipE d al).length = d.length := by
      have := congrArg List.length (zipE_keys hl)
      rwa [show (mkeys (zipE d al)).length = (zipE d al).length from List.length_map _, show (mkeys d).length = d.length from List.length_map _] at this
    rw [e1, hd.length_eq]
    exact h.nm.few
  · intro p hp
    have : pA p ∈ (zipE d al).map pA := List.mem_map_of_mem hp
    rw [zipE_adr hl] at this
    obtain ⟨a, ha, e⟩ := List.mem_map.1 this
    exact ⟨a, e.symm, by rw [zipL_fst L hl]; exact ha⟩
  · rw [zipE_adr hl]
    exact List.pairwise_map.2 (hn.imp fun h e => h (Option.some.inj e))
  · rw [zipL_fst L hl]; exact hn
  · intro x hx
    obtain ⟨p, hp, e⟩ := zipL_mem hx
    rw [e]
    exact (stAt_ok h.pl (hd.mem_iff.1 hp)).1
  · intro x hx
    obtain ⟨p, hp, e⟩ := zipL_mem hx
    rw [e]
    exact (stAt_ok h.pl (hd.mem_iff.1 hp)).2
theorem poolS_anch (L : SPool) : ∀ p ∈ poolS L, p.2.anch := fun p hp => by
  obtain ⟨q, _, rfl⟩ := List.mem_map.1 hp
  exact fun I F w p h => stO_anch h
theorem poolS_fst (L : SPool) : (poolS L).map (·.1) = L.map (·.1) := by
  unfold poolS
  rw [List.map_map]
  rfl
/-- How many writes are loose in the file of a name; of names. -/
def looseAt (es : FMap) (L : SPool) (n : List UInt8) : Nat := (stAt L (fget es n)).loose.length
def sumTo (es : FMap) (L : SPool) (ns : List (List UInt8)) (i : Nat) : Nat := ((ns.take i).map (looseAt es L)).sum
theorem sumTo_succ (es : FMap) (L : SPool) {ns : List (List UInt8)} {i : Nat} (h : i < ns.length) : sumTo es L ns (i + 1) = sumTo es L ns i + looseAt es L ns[i] := sum_take_succ (looseAt es L) h
theorem sumTo_le {es : FMap} {L : SPool} {ns : List (List UInt8)} {W : Nat} (h : ∀ n ∈ ns, looseAt es L n ≤ W) : ∀ i, i ≤ ns.length → sumTo es L ns i ≤ i * W
  | 0, _ => by show 0 ≤ _; omega
  | i + 1, hi => by
    have h1 := sumTo_le h i (by omega)
    have h2 := h _ (List.getElem_mem (show i < ns.length by omega))
    rw [sumTo_succ es L (by omega), Nat.add_mul]
    omega
theorem looseAt_le {es : FMap} {L : SPool} {W : Nat} (h : PoolOK es L W) {n : List UInt8} (hn : n ∈ mkeys es) : looseAt es L n ≤ W := by
  obtain ⟨a, ha⟩ := h.fget hn
  unfold looseAt
  rw [ha]
  exact (stAt_ok h (fget_mem ha)).2
theorem poolLoose {m : StM} {L : SPool} {b : Nat} (hL : sget L b = some m) : Fn Try.prog 51 [vAd b] [(1003, .obj (.pool (poolS L)))] [] (vI (m.loose.length : Nat)) [(1003, .obj (.pool (poolS L)))] := by
  have := poolFn (sloose_fn m) hL rfl rfl
  rwa [sset_same hL] at this
theorem keysS_eq {d es : FMap} (h : (mkeys d).Perm (mkeys es)) : keysS d = keysS es := Go.mergeSort_of_perm h
theorem looseAt_crash {es : FMap} {L : SPool} {W : Nat} (h : PoolOK es L W) (ks : List Kp) {n : List UInt8} (hn : n ∈ mkeys es) : looseAt es (mapP (crE ks es) L) n = 0 := by
  obtain ⟨a, ha⟩ := h.fget hn
  obtain ⟨m, hm, _, _⟩ := fget_ex h ha
  unfold looseAt
  rw [ha]
  show ((sget (mapP (crE ks es) L) a).getD stD).loose.length = 0
  rw [sget_mapP, hm]
  show (crE ks es a m).loose.length = 0
  unfold crE
  cases e : es.find? fun p => decide (pA p = some a) with
  | none =>
    have := List.find?_eq_none.1 e _ (fget_mem ha)
    simp [show pA (mkA n (some a)) = some a from rfl] at this
  | some p => rfl
@[reducible] def mkOp (k : Int) (ks : List Kp) : Op4 := (k, (0 : Int), ([] : List UInt8), ([] : List UInt8), ks, (0 : Int), (0 : Int), (0 : Int), ([] : List UInt8), ([] : List Int))
theorem mkOp_bulk (k : Int) (ks : List Kp) : bulkU (.sl uO4) [mkOp k ks] = 10 + bulkU (.sl uK) ks := by
  have e : bulkU (.sl uO4) [mkOp k ks] = 1 + (bulkU uO4 (mkOp k ks) + 0) := rfl
  rw [e, bulk_op4, bulk_kps]
  have : tot (mkOp k ks) = (ks.map totK).sum := by
    show 0 + 0 + 0 + 0 + (ks.map totK).sum = _
    omega
  rw [this]
  show 1 + (10 + (ks.map totK).sum + 2 * ks.length + 0) = _
  omega
@[reducible] def cpB (L : SPool) (d : FMap) : BL := [(2001, .cells [.d (.int .i64 100), .mp 2002]), (2002, .obj (.mapO .str (cpO L d)))]
@[reducible] def fsK (l : List Op4) (ks : List Kp) (k : Nat) : KL := [(0, vL uO4 l), (1, vL uK ks), (5, vP 1001), (56, vL uO4 l), (57, vI (l.length : Nat)), (58, vI (k : Nat))]
@[reducible] def fs1K (ks : List Kp) (n : List (List UInt8)) (s i : Nat) : KL := [(1, vL uK ks), (5, vP 1001), (9, vP 2001), (10, vI (s : Nat)), (71, vL .str n), (72, vI (n.length : Nat)), (73, vI (i : Nat))]
@[reducible] def fs2K (n : List (List UInt8)) (s0 s i : Nat) : KL := [(5, vP 1001), (9, vP 2001), (10, vI (s0 : Nat)), (15, vI (s : Nat)), (93, vL .str n), (94, vI (n.length : Nat)), (95, vI (i : Nat))]
@[reducible] def fs3K (n : List (List UInt8)) (s0 s i : Nat) : KL := [(5, vP 1001), (9, vP 2001), (10, vI (s0 : Nat)), (15, vI 0), (20, vI (s : Nat)), (111, vL .str n), (112, vI (n.length : Nat)), (113, vI (i : Nat))]
set_option maxHeartbeats 2000000 in
theorem fcrashes_spec (l : List Op4) (ks : List Kp) (h : ScrOK l 1048576) (hks : bulkU (.sl uK) ks ≤ 1048576) : Fn Try.prog 13 [vL uO4 l, vL uK ks] [] [] (vB true) [] := by
  have hs0 : ScrOK [mkOp 0 ks] 1048600 := ScrOK.of (by rw [mkOp_bulk]; omega)
  have hs3 : ScrOK [mkOp 3 ks] 1048600 := ScrOK.of (by rw [mkOp_bulk]; omega)
  have hO3 := hs3.ops _ (List.mem_cons_self ..)
  refine Fn.of tblOK [9,19] _ _ _ _ _ Try.func13 rfl rfl (by kernel_rfl) (by kernel_rfl) rfl (drawOK tblOK) rfl ?_
  refine ⟨_, _, _, _, fnew_ok 100 (by decide), trivial, rfl, ?_⟩
  refine ⟨fun h => absurd h (by decide), fun _ => ?_⟩
  refine ⟨_, _, _, _, few4_of h (by decide), trivial, rfl, ?_⟩
  refine ⟨fun _ => ?_, fun _ => ?_⟩
  · refine ⟨fun _ => ?_, fun h => absurd h (by decide)⟩
    refine ⟨_, _, _, _, alive4_spec, trivial, rfl, ?_⟩
    exact ⟨_, _, _, Le.refl _ _, rfl, rfl, trivial, rfl⟩
  refine ⟨_, _, _, _, few4_of hs0 (by decide), trivial, rfl, ?_⟩
  refine ⟨fun _ => ?_, fun _ => ?_⟩
  · refine ⟨fun _ => ?_, fun h => absurd h (by decide)⟩
    refine ⟨_, _, _, _, alive4_spec, trivial, rfl, ?_⟩
    exact ⟨_, _, _, Le.refl _ _, rfl, rfl, trivial, rfl⟩
  show TrQ _ _ _ _ _ _ _
  refine TrQ.le (Le.emp 1003 rfl) ?_
  refine TrQ.loop tblOK (drawOK tblOK) [7] (by kernel_rfl) (X := Nat × FMap × SPool) (fun x => fsK l ks x.1) (fun x => flS 1001 1002 1003 100 x.2.1 x.2.2) (fun x => x.1 ≤ l.length ∧ FOK x.2.1 x.2.2 (wrt l x.1)) (fun x => l.length - x.1) (0, [], []) ⟨Nat.zero_le _, FOK.nil _⟩ ?_ ?_
  · exact Le.sub ⟨rfl, rfl, rfl, rfl, rfl, rfl, trivial⟩ ⟨rfl, rfl, rfl, trivial⟩
  rintro ⟨k, es, L⟩ ⟨hk, hF⟩
  have hk : k ≤ l.length := hk
  have hF : FOK es L (wrt l k) := hF
  have hll := h.len
  refine ⟨fun hc => ?_, fun hc => ?_⟩
  · have hk1 : k < l.length := by
      have hc : decide ((k : Int) < (l.length : Int)) = true := hc
      simpa using hc
    have hO := h.ops _ (List.getElem_mem hk1)
    have hw : wrt l k ≤ 1048576 := h.take k
    refine ⟨by omega, l[k], lgAt (n := k) hk1, ?_⟩
    refine ⟨rfl, ?_⟩
    show TrQ _ _ _ _ _ _ _
    refine TrQ.regionX tblOK (by kernel_rfl) ?_
    refine ⟨_, _, _, fun g => _, fun g => _, does_fn 100 es L l[k] (wrt l k) hF (by omega) (hO.mono (by decide)), ⟨rfl, rfl, rfl, trivial⟩, rfl, fun _ => rfl, fun g => ?_⟩
    have hF2 := doF_ok (room := 100) (o := l[k]) (b := g.1) hF g.2
    rw [← wrt_succ l hk1] at hF2
    exact ⟨by omega, (k + 1, (doF 100 es L l[k] g.1).es, (doF 100 es L l[k] g.1).L), ⟨hk1, hF2⟩, by show l.length - (k + 1) < l.length - k; omega, Le.sub ⟨rfl, rfl, rfl, rfl, rfl, rfl, trivial⟩ ⟨rfl, rfl, rfl, trivial⟩⟩
  have hk2 : k = l.length := by
    have hc : decide ((k : Int) < (l.length : Int)) = false := hc
    simp at hc; omega
  subst hk2
  have hw : wrt l l.length ≤ 1048576 := h.take _
  have hkl : (keysS es).length ≤ 16 := by rw [keysS_length]; exact hF.nm.few
  show TrQ _ _ _ _ _ _ _
  refine TrQ.regionX tblOK (by kernel_rfl) ?_
  refine ⟨_, _, _, fun d => _, fun d => _, fcopy_fn 100 es L (wrt l l.length) hF.pl hF.nm.nd (by omega), ⟨rfl, rfl, rfl, trivial⟩, rfl, fun _ => rfl, fun d => ?_⟩
  obtain ⟨d, hdp⟩ := d
  refine ⟨_, _, _, _, fnames_spec 100 es hF.nm, ⟨rfl, rfl, trivial⟩, rfl, ?_⟩
  show TrQ _ _ _ _ _ _ _
  refine TrQ.loop tblOK (drawOK tblOK) [] (by kernel_rfl) (X := Nat) (fun i => fs1K ks (keysS es) (sumTo es L (keysS es) i) i) (fun _ => flS 1001 1002 1003 100 es L ++ cpB L d) (fun i => i ≤ (keysS es).length) (fun i => (keysS es).length - i) 0 (Nat.zero_le _) ?_ ?_
  · exact Le.sub ⟨rfl, rfl, rfl, rfl, rfl, rfl, rfl, trivial⟩ ⟨rfl, rfl, rfl, rfl, rfl, trivial⟩
  intro i hi
  refine ⟨fun hd => ?_, fun hd => ?_⟩
  · have hd : decide ((i : Int) < ((keysS es).length : Int)) = true := hd
    have hd : i < (keysS es).length := by simpa using hd
    have hmem : (keysS es)[i] ∈ mkeys es := mem_keysS.1 (List.getElem_mem hd)
    have hsl := sumTo_le (fun n hn => looseAt_le hF.pl (mem_keysS.1 hn)) i hi
    have hla := looseAt_le hF.pl hmem
    have hsu := sumTo_succ es L hd
    obtain ⟨a, ha⟩ := hF.pl.fget hmem
    obtain ⟨m, hm, _, _⟩ := fget_ex hF.pl ha
    have hlm : looseAt es L (keysS es)[i] = m.loose.length := by
      unfold looseAt
      rw [ha]
      show ((sget L a).getD stD).loose.length = _
      rw [hm]
      rfl
    rw [hlm] at hla hsu
    have hiw : i * wrt l l.length ≤ 16 * 1048576 := Nat.mul_le_mul (by omega) hw
    refine ⟨by omega, (keysS es)[i], lgAt (n := i) hd, ?_⟩
    refine ⟨_, _, _, _, fopen_ok 100 es _ a ha, ⟨rfl, rfl, trivial⟩, rfl, ?_⟩
    refine ⟨_, _, _, _, poolLoose hm, ⟨rfl, trivial⟩, rfl, ?_⟩
    have hb1 : -9223372036854775808 ≤ (sumTo es L (keysS es) i : Int) + (m.loose.length : Nat) ∧ (sumTo es L (keysS es) i : Int) + (m.loose.length : Nat) ≤ 9223372036854775807 := by omega
    refine ⟨hb1, ?_⟩
    refine ⟨by omega, i + 1, by omega, by omega, Le.sub ⟨rfl, rfl, rfl, (show _ = _ by rw [hsu]; rfl), rfl, rfl, rfl, trivial⟩ ⟨rfl, rfl, rfl, rfl, rfl, trivial⟩⟩
  · have hd : i = (keysS es).length := by
      have hd : decide ((i : Int) < ((keysS es).length : Int)) = false := hd
      simp at hd; omega
    subst hd
    generalize hS0 : sumTo es L (keysS es) (keysS es).length = S0
    show TrQ _ _ _ _ _ _ _
    refine TrQ.leX (LeX.openMapO 2002 2003 rfl rfl) fun al => ?_
    obtain ⟨al, hal⟩ := al
    have hal : al.length = d.length := hal.trans (List.length_map _)
    have hlu : ∀ c, c = 2003 → some (Ch.obj (.pool (zipO (cpO L d) al))) = some (Ch.obj (.pool (poolS (zipL L d al)))) := fun _ _ => congrArg (fun p => some (Ch.obj (.pool p))) (zipO_cp L d al)
    refine TrQ.le (K' := fs1K ks (keysS es) S0 (keysS es).length) (B' := flS 1001 1002 1003 100 es L ++ flS 2001 2002 2003 100 (zipE d al) (zipL L d al)) (Le.sub ⟨rfl, rfl, rfl, rfl, rfl, rfl, rfl, trivial⟩ ⟨rfl, rfl, rfl, rfl, congrArg (fun e => some (Ch.map .str .adr e)) (zipA_cp L d al), congrArg (fun p => some (Ch.obj (.pool p))) (zipO_cp L d al), trivial⟩) ?_
    refine TrQ.leX (LeX.poolNd 2003 (poolS_anch (zipL L d al)) rfl) fun hnd => ?_
    have hnd : al.Nodup := by
      have := hnd.down
      rwa [poolS_fst, zipL_fst L hal] at this
    have hF2 := hF.copy hdp hal hnd
    have hke : keysS (zipE d al) = keysS es := keysS_eq (by rw [zipE_keys hal]; exact mkeys_perm hdp)
    have hF3 : FOK (zipE d al) (mapP (crE ks (zipE d al)) (zipL L d al)) (wrt l l.length) := ⟨hF2.nm, hF2.pl.map (fun a m => crE_ok _ _ a m) (fun a m => crE_few _ _ _ a m)⟩
    have hz : ∀ i, sumTo (zipE d al) (mapP (crE ks (zipE d al)) (zipL L d al)) (keysS (zipE d al)) i = 0 := fun i => by
      unfold sumTo
      rw [List.sum_eq_zero_iff_forall_eq_nat]
      intro x hx
      obtain ⟨n, hn, rfl⟩ := List.mem_map.1 hx
      exact looseAt_crash hF2.pl ks (mem_keysS.1 (List.mem_of_mem_take hn))
    refine TrQ.regionX tblOK (by kernel_rfl) ?_
    refine ⟨_, _, _, fun g => _, fun g => _, FnX.arg (FnX.ren [(1001, 2001), (1002, 2002), (1003, 2003)] (does_fn 100 (zipE d al) (zipL L d al) (mkOp 3 ks) (wrt l l.length) hF2 (by omega) (hO3.mono (by decide)))) ⟨rfl, ⟨rfl, rfl, rfl, rfl, rfl, rfl, rfl, rfl, rfl, rfl, trivial⟩, trivial⟩, ⟨rfl, rfl, rfl, trivial⟩, rfl, fun _ => rfl, fun g => ?_⟩
    refine ⟨_, _, _, _, Fn.ren [(1001, 2001), (1002, 2002)] (fnames_spec 100 (zipE d al) hF2.nm), ⟨rfl, rfl, trivial⟩, rfl, ?_⟩
    have hkl2 : (keysS (zipE d al)).length ≤ 16 := by rw [hke]; exact hkl
    show TrQ _ _ _ _ _ _ _
    refine TrQ.loop tblOK (drawOK tblOK) [] (by kernel_rfl) (X := Nat) (fun i => fs2K (keysS (zipE d al)) S0 (sumTo (zipE d al) (mapP (crE ks (zipE d al)) (zipL L d al)) (keysS (zipE d al)) i) i) (fun _ => flS 1001 1002 1003 100 es L ++ flS 2001 2002 2003 100 (zipE d al) (mapP (crE ks (zipE d al)) (zipL L d al))) (fun i => i ≤ (keysS (zipE d al)).length) (fun i => (keysS (zipE d al)).length - i) 0 (Nat.zero_le _) ?_ ?_
    · exact Le.sub ⟨rfl, rfl, rfl, rfl, rfl, rfl, rfl, trivial⟩ ⟨rfl, rfl, rfl, rfl, rfl, rfl, trivial⟩
    intro i hi
    refine ⟨fun hd => ?_, fun hd => ?_⟩
    · have hd : decide ((i : Int) < ((keysS (zipE d al)).length : Int)) = true := hd
      have hd : i < (keysS (zipE d al)).length := by simpa using hd
      have hmem : (keysS (zipE d al))[i] ∈ mkeys (zipE d al) := mem_keysS.1 (List.getElem_mem hd)
      have hsl := sumTo_le (fun n hn => looseAt_le hF3.pl (mem_keysS.1 hn)) i hi
      have hla := looseAt_le hF3.pl hmem
      have hsu := sumTo_succ (zipE d al) (mapP (crE ks (zipE d al)) (zipL L d al)) hd
      obtain ⟨a, ha⟩ := hF3.pl.fget hmem
      obtain ⟨m, hm, _, _⟩ := fget_ex hF3.pl ha
      have hlm : looseAt (zipE d al) (mapP (crE ks (zipE d al)) (zipL L d al)) (keysS (zipE d al))[i] = m.loose.length := by
        unfold looseAt
        rw [ha]
        show ((sget (mapP (crE ks (zipE d al)) (zipL L d al)) a).getD stD).loose.length = _
        rw [hm]
        rfl
      rw [hlm] at hla hsu
      have hiw : i * wrt l l.length ≤ 16 * 1048576 := Nat.mul_le_mul (by omega) hw
      refine ⟨by omega, (keysS (zipE d al))[i], lgAt (n := i) hd, ?_⟩
      refine ⟨_, _, _, _, Fn.ren [(1001, 2001), (1002, 2002)] (fopen_ok 100 (zipE d al) _ a ha), ⟨rfl, rfl, trivial⟩, rfl, ?_⟩
      refine ⟨_, _, _, _, Fn.ren [(1003, 2003)] (poolLoose hm), ⟨rfl, trivial⟩, rfl, ?_⟩
      have hb1 : -9223372036854775808 ≤ (sumTo (zipE d al) (mapP (crE ks (zipE d al)) (zipL L d al)) (keysS (zipE d al)) i : Int) + (m.loose.length : Nat) ∧ (sumTo (zipE d al) (mapP (crE ks (zipE d al)) (zipL L d al)) (keysS (zipE d al)) i : Int) + (m.loose.length : Nat) ≤ 9223372036854775807 := by omega
      refine ⟨hb1, ?_⟩
      refine ⟨by omega, i + 1, by omega, by omega, Le.sub ⟨rfl, rfl, rfl, (show _ = _ by rw [hsu]; rfl), rfl, rfl, rfl, trivial⟩ ⟨rfl, rfl, rfl, rfl, rfl, rfl, trivial⟩⟩
    · have hd : i = (keysS (zipE d al)).length := by
        have hd : decide ((i : Int) < ((keysS (zipE d al)).length : Int)) = false := hd
        simp at hd; omega
      subst hd
      rw [hz]
      refine ⟨_, _, _, _, fnames_spec 100 es hF.nm, ⟨rfl, rfl, trivial⟩, rfl, ?_⟩
      show TrQ _ _ _ _ _ _ _
      refine TrQ.loop tblOK (drawOK tblOK) [] (by kernel_rfl) (X := Nat) (fun i => fs3K (keysS es) S0 (sumTo es L (keysS es) i) i) (fun _ => flS 1001 1002 1003 100 es L ++ flS 2001 2002 2003 100 (zipE d al) (mapP (crE ks (zipE d al)) (zipL L d al))) (fun i => i ≤ (keysS es).length) (fun i => (keysS es).length - i) 0 (Nat.zero_le _) ?_ ?_
      · exact Le.sub ⟨rfl, rfl, rfl, rfl, rfl, rfl, rfl, rfl, trivial⟩ ⟨rfl, rfl, rfl, rfl, rfl, rfl, trivial⟩
      intro i hi
      refine ⟨fun hd => ?_, fun hd => ?_⟩
      · have hd : decide ((i : Int) < ((keysS es).length : Int)) = true := hd
        have hd : i < (keysS es).length := by simpa using hd
        have hmem : (keysS es)[i] ∈ mkeys es := mem_keysS.1 (List.getElem_mem hd)
        have hsl := sumTo_le (fun n hn => looseAt_le hF.pl (mem_keysS.1 hn)) i hi
        have hla := looseAt_le hF.pl hmem
        have hsu := sumTo_succ es L hd
        obtain ⟨a, ha⟩ := hF.pl.fget hmem
        obtain ⟨m, hm, _, _⟩ := fget_ex hF.pl ha
        have hlm : looseAt es L (keysS es)[i] = m.loose.length := by
          unfold looseAt
          rw [ha]
          show ((sget L a).getD stD).loose.length = _
          rw [hm]
          rfl
        rw [hlm] at hla hsu
        have hiw : i * wrt l l.length ≤ 16 * 1048576 := Nat.mul_le_mul (by omega) hw
        refine ⟨by omega, (keysS es)[i], lgAt (n := i) hd, ?_⟩
        refine ⟨_, _, _, _, fopen_ok 100 es _ a ha, ⟨rfl, rfl, trivial⟩, rfl, ?_⟩
        refine ⟨_, _, _, _, poolLoose hm, ⟨rfl, trivial⟩, rfl, ?_⟩
        have hb1 : -9223372036854775808 ≤ (sumTo es L (keysS es) i : Int) + (m.loose.length : Nat) ∧ (sumTo es L (keysS es) i : Int) + (m.loose.length : Nat) ≤ 9223372036854775807 := by omega
        refine ⟨hb1, ?_⟩
        refine ⟨by omega, i + 1, by omega, by omega, Le.sub ⟨rfl, rfl, rfl, rfl, (show _ = _ by rw [hsu]; rfl), rfl, rfl, rfl, trivial⟩ ⟨rfl, rfl, rfl, rfl, rfl, rfl, trivial⟩⟩
      · have hd : i = (keysS es).length := by
          have hd : decide ((i : Int) < ((keysS es).length : Int)) = false := hd
          simp at hd; omega
        subst hd
        rw [hS0]
        refine ⟨_, _, _, _, alive4_spec, trivial, rfl, ?_⟩
        refine ⟨fun _ => ?_, fun h => absurd h (by decide)⟩
        refine ⟨_, _, _, _, fnames_spec 100 es hF.nm, ⟨rfl, rfl, trivial⟩, rfl, ?_⟩
        refine ⟨_, _, _, _, Fn.ren [(1001, 2001), (1002, 2002)] (fnames_spec 100 (zipE d al) hF2.nm), ⟨rfl, rfl, trivial⟩, rfl, ?_⟩
        have hkl4 : (keysS es).length ≤ 4294967296 := by omega
        refine ⟨_, _, _, _, sameT_spec (keysS es) (keysS (zipE d al)) hkl4, trivial, rfl, ?_⟩
        rw [decide_eq_true hke.symm]
        refine ⟨fun _ => ?_, fun h => absurd h (by decide)⟩
        refine ⟨fun _ => ?_, fun h => absurd h (by decide)⟩
        exact ⟨_, _, _, Le.refl _ _, rfl, (show decide ((S0 : Int) = (S0 : Int)) = true from decide_eq_true rfl), trivial, rfl⟩
end Go.Proofs.Ythghcdddambaeaa
