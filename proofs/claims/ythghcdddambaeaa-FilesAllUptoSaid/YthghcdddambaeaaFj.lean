/-
  Files: Crash.
-/
import Derived.Test.YthghcdddambaeaaFi
import Derived.Test.YthghcdddambaeaaMo
import Derived.Test.YthghcdddambaeaaKs
set_option linter.unusedVariables false
set_option linter.unusedSimpArgs false
set_option maxRecDepth 10000
namespace Go.Proofs.Ythghcdddambaeaa
open Go.RowKit Go.Proofs
@[reducible] def uK : U := .pr .str (.sl uI)
abbrev Kp := El uK
@[reducible] def kNm (k : Kp) : List UInt8 := k.1
@[reducible] def kL (k : Kp) : List Int := k.2
/-- Where a name stands; what is kept of it. -/
def kpIx (ks : List Kp) (nm : List UInt8) : Option Nat := ks.findIdx? fun k => decide (kNm k = nm)
def kpI (ks : List Kp) (nm : List UInt8) : Int := match kpIx ks nm with
  | some i => (i : Nat)
  | none => -1
def keepOf (ks : List Kp) (nm : List UInt8) : List Int := match kpIx ks nm with
  | some i => match ks[i]? with
    | some k => kL k
    | none => []
  | none => []
theorem kpc_fn (k : Kp) (nm : List UInt8) : Fn Try.prog 121 [.c (.agg [.d (.str (kNm k)), .d (.lst uI (kL k))]), vP 1001] [(1001, .cells [.d (.str nm)])] [] (vB (decide (kNm k = nm))) [(1001, .cells [.d (.str nm)])] := by
  refine Fn.of tblOK [] _ _ _ _ _ Try.func121 rfl rfl (by kernel_rfl) (by kernel_rfl) rfl (drawOK tblOK) rfl ?_
  refine ⟨rfl, ?_⟩
  exact ⟨_, _, _, Le.refl _ _, rfl, rfl, ⟨rfl, trivial⟩, rfl⟩
theorem kpIx_fn (ks : List Kp) (nm : List UInt8) (hl : ks.length ≤ 4294967296) :
    Fn Try.prog 120 [vL uK ks, v1 (.clo 121 [.p 1001 0])] [(1001, .cells [.d (.str nm)])] [] (vI (kpI ks nm)) [(1001, .cells [.d (.str nm)])] := by
  refine Fn.of tblOK [] _ _ _ _ _ Try.func120 rfl rfl (by kernel_rfl) (by kernel_rfl) rfl (drawOK tblOK) rfl ?_
  show TrQ _ _ _ _ _ _ _
  refine TrQ.loop tblOK (drawOK tblOK) [] (by kernel_rfl) (X := Nat) (fun k => [(0, vL uK ks), (1, v1 (.clo 121 [.p 1001 0])), (7, vI (ks.length : Nat)), (8, vI (k : Nat))]) (fun _ => [(1001, .cells [.d (.str nm)])]) (fun k => k ≤ ks.length ∧ ∀ (i : Nat) x, i < k → ks[i]? = some x → kNm x ≠ nm) (fun k => ks.length - k) 0 ⟨Nat.zero_le _, fun i x h => absurd h (Nat.not_lt_zero _)⟩ ?_ ?_
  · exact Le.sub ⟨rfl, rfl, rfl, rfl, trivial⟩ ⟨rfl, trivial⟩
  rintro k ⟨hk, hp⟩
  refine ⟨fun h => ?_, fun h => ?_⟩
  · have hk1 : k < ks.length := by
      have h : decide ((k : Int) < (ks.length : Int)) = true := h
      simpa using h
    refine ⟨by omega, ks[k], lgAt (n := k) hk1, ?_⟩
    refine ⟨_, _, _, _, kpc_fn ks[k] nm, ⟨rfl, trivial⟩, rfl, ?_⟩
    refine ⟨fun h2 => ?_, fun h2 => ?_⟩
    · have h2 : kNm ks[k] = nm := of_decide_eq_true h2
      refine ⟨_, _, _, Le.refl _ _, rfl, (show ((k : Nat) : Int) = kpI ks nm from ?_), ⟨rfl, trivial⟩, rfl⟩
      have : kpIx ks nm = some k := by
        rw [kpIx, List.findIdx?_eq_some_iff_getElem]
        refine ⟨hk1, by simp [h2], fun j hj => ?_⟩
        have := hp j _ hj (List.getElem?_eq_getElem (by omega))
        simpa using this
      rw [kpI, this]
    · have h2 : kNm ks[k] ≠ nm := of_decide_eq_false h2
      refine ⟨by omega, k + 1, ⟨by omega, fun i x hi hx => ?_⟩, by omega, Le.sub ⟨rfl, rfl, rfl, rfl, trivial⟩ ⟨rfl, trivial⟩⟩
      rcases Nat.lt_or_ge i k with h4 | h4
      · exact hp i x h4 hx
      · have : i = k := by omega
        subst this
        rw [List.getElem?_eq_getElem hk1] at hx
        injection hx with hx
        rw [← hx]; exact h2
  · have hk2 : k = ks.length := by
      have h : decide ((k : Int) < (ks.length : Int)) = false := h
      simp at h; omega
    refine ⟨_, _, _, Le.refl _ _, rfl, (show (-1 : Int) = kpI ks nm from ?_), ⟨rfl, trivial⟩, rfl⟩
    have : kpIx ks nm = none := by
      rw [kpIx, List.findIdx?_eq_none_iff]
      intro x hx
      obtain ⟨i, hi, rfl⟩ := List.getElem_of_mem hx
      have := hp i _ (by omega) (List.getElem?_eq_getElem hi)
      simpa using this
    rw [kpI, this]
/-! ### the pool, turned address by address -/
theorem sget_cons (p : Nat × StM) (L : SPool) (b : Nat) : sget (p :: L) b = if p.1 = b then some p.2 else sget L b := rfl
def mapP (f : Nat → StM → StM) (L : SPool) : SPool := L.map fun q => (q.1, f q.1 q.2)
theorem sget_mapP (f : Nat → StM → StM) (a : Nat) : ∀ L : SPool, sget (mapP f L) a = (sget L a).map (f a)
  | [] => rfl
  | p :: L => by
    show (if p.1 = a then some (f p.1 p.2) else sget (mapP f L) a) = _
    rw [sget_cons]
    split
    · rename_i e; rw [e]; rfl
    · exact sget_mapP f a L
theorem mapP_congr {f g : Nat → StM → StM} {L : SPool} (h : ∀ p ∈ L, f p.1 p.2 = g p.1 p.2) : mapP f L = mapP g L := List.map_congr_left fun p hp => by rw [h p hp]
theorem sset_mapP {f g : Nat → StM → StM} {a : Nat} {m' : StM} : ∀ {L : SPool}, (L.map (·.1)).Nodup → ∀ {m : StM}, sget L a = some m → g a m = m' → (∀ b, b ≠ a → ∀ m, g b m = f b m) → sset (mapP f L) a m' = mapP g L
  | [], _, m, h, _, _ => by cases h
  | p :: L, hn, m, h, h1, h2 => by
    rw [List.map_cons, List.nodup_cons] at hn
    show (if p.1 = a then (p.1, m') :: mapP f L else (p.1, f p.1 p.2) :: sset (mapP f L) a m') = (p.1, g p.1 p.2) :: mapP g L
    rw [sget_cons] at h
    split at h
    · rename_i e
      injection h with h
      rw [if_pos e, ← h1, ← h, e]
      congr 1
      refine mapP_congr fun q hq => (h2 _ (fun e2 => hn.1 ?_) _).symm
      rw [e, ← e2]
      exact List.mem_map_of_mem hq
    · rename_i e
      rw [if_neg e, sset_mapP hn.2 h h1 h2, h2 _ e]
theorem kpI_neg {ks : List Kp} {nm : List UInt8} (h : kpI ks nm < 0) : keepOf ks nm = [] := by
  unfold keepOf
  unfold kpI at h
  cases e : kpIx ks nm with
  | none => rfl
  | some i => rw [e] at h; simp only at h; omega
theorem kpI_pos {ks : List Kp} {nm : List UInt8} (h : ¬ kpI ks nm < 0) : ∃ (i : Nat) (hi : i < ks.length), kpI ks nm = (i : Nat) ∧ keepOf ks nm = kL ks[i] := by
  unfold keepOf
  unfold kpI at h ⊢
  cases e : kpIx ks nm with
  | none => rw [e] at h; simp only at h; omega
  | some i =>
    have h1 : i < ks.length := by
      rw [kpIx, List.findIdx?_eq_some_iff_getElem] at e
      exact e.1
    refine ⟨i, h1, rfl, ?_⟩
    simp only
    rw [List.getElem?_eq_getElem h1]
/-! ### Crash -/
abbrev EnA := Nat × (El .str × El .adr)
def eK (e : EnA) : List UInt8 := e.2.1
def eA (e : EnA) : Option Nat := e.2.2
/-- What a crash makes of the store at an address, behind some of the rounds. -/
def crF (ks : List Kp) (l : List EnA) (seen : List Nat) (a : Nat) (m : StM) : StM := match l.find? fun e => decide (eA e = some a) with
  | some e => match seen.contains e.1 with
    | true => m.crash (keepOf ks (eK e))
    | false => m
  | none => m
def pK (p : El .str × El .adr) : List UInt8 := p.1
def pA (p : El .str × El .adr) : Option Nat := p.2
def crE (ks : List Kp) (es : List (El .str × El .adr)) (a : Nat) (m : StM) : StM := match es.find? fun p => decide (pA p = some a) with
  | some p => m.crash (keepOf ks (pK p))
  | none => m
theorem crF_all {ks : List Kp} {l : List EnA} {seen : List Nat} (h : ∀ e ∈ l, e.1 ∈ seen) (a : Nat) (m : StM) : crF ks l seen a m = crE ks (l.map (·.2)) a m := by
  unfold crF crE
  rw [List.find?_map]
  show _ = match Option.map (·.2) (l.find? fun e => decide (eA e = some a)) with
    | some p => m.crash (keepOf ks (pK p))
    | none => m
  cases e : l.find? fun e => decide (eA e = some a) with
  | none => rfl
  | some x =>
    have := h x (List.mem_of_find?_eq_some e)
    simp [this]
    rfl
/-- Who has which address; what the stores are as. -/
structure PoolOK (es : List (El .str × El .adr)) (L : SPool) (W : Nat) : Prop where
  ex : ∀ p ∈ es, ∃ a, pA p = some a ∧ a ∈ L.map (·.1)
  nd : (es.map pA).Nodup
  nl : (L.map (·.1)).Nodup
  ok : ∀ p ∈ L, StOK p.2
  few : ∀ p ∈ L, p.2.loose.length ≤ W
theorem sget_mem {a : Nat} {m : StM} : ∀ {L : SPool}, sget L a = some m → (a, m) ∈ L
  | [], h => by cases h
  | p :: L, h => by
    rw [sget_cons] at h
    split at h
    · rename_i e
      injection h with h
      rw [← e, ← h]
      exact List.mem_cons_self ..
    · exact List.mem_cons_of_mem _ (sget_mem h)
theorem sget_of_mem {a : Nat} : ∀ {L : SPool}, a ∈ L.map (·.1) → ∃ m, sget L a = some m
  | [], h => by cases h
  | p :: L, h => by
    rw [sget_cons]
    split
    · exact ⟨_, rfl⟩
    · rename_i e
      rcases List.mem_cons.1 h with h | h
      · exact absurd h.symm e
      · exact sget_of_mem h
theorem find_addr {l : List EnA} (hn : (l.map eA).Nodup) {e : EnA} (he : e ∈ l) {a : Nat} (ha : eA e = some a) : (l.find? fun x => decide (eA x = some a)) = some e := by
  cases h : l.find? fun x => decide (eA x = some a) with
  | none =>
    have := List.find?_eq_none.1 h e he
    simp [ha] at this
  | some x =>
    have h1 := List.find?_some h
    have h2 := List.mem_of_find?_eq_some h
    have h1 : eA x = some a := by simpa using h1
    rw [nodup_key hn h2 he (h1.trans ha.symm)]
@[reducible] def fcK (ks : List Kp) : KL := [(0, vP 1001), (1, vL uK ks), (11, vP 11)]
@[reducible] def fcB (room : Int) (b clock : Nat) (seen : List Nat) (l : List EnA) (L : SPool) : BL := [(1001, .cells [.d (.int .i64 room), .mp 1002]), (1002, .obj (.mapG b .str .adr l clock)), (11, .obj (.iterG b clock seen clock)), (1003, .obj (.pool (poolS L)))]
def unseenA (seen : List Nat) (l : List EnA) : List EnA := l.filter fun p => !seen.contains p.1
theorem unseenA_lt {seen : List Nat} {l : List EnA} {p : EnA} (hp : p ∈ l) (hn : p.1 ∉ seen) : (unseenA (seen ++ [p.1]) l).length < (unseenA seen l).length := by
  have e : unseenA (seen ++ [p.1]) l = (unseenA seen l).filter fun q => !decide (q.1 = p.1) := by
    unfold unseenA
    rw [List.filter_filter]
    refine List.filter_congr fun q _ => ?_
    by_cases e : q.1 = p.1 <;> simp [e]
  rw [e]
  have hm : p ∈ unseenA seen l := List.mem_filter.2 ⟨hp, by simp [hn]⟩
  exact List.length_filter_lt_length_iff_exists.2 ⟨p, hm, by simp⟩
set_option maxHeartbeats 1000000 in
theorem fcrash_fn (room : Int) (es : List (El .str × El .adr)) (L : SPool) (W : Nat) (ks : List Kp) (h : PoolOK es L W) (hW : W ≤ 1073741824) (hk : ks.length ≤ 1073741824) (hkl : ∀ k ∈ ks, (kL k).length ≤ 1073741824) :
    Fn Try.prog 89 [vP 1001, vL uK ks] (flS 1001 1002 1003 room es L) [] vU (flS 1001 1002 1003 room es (mapP (crE ks es) L)) := by
  refine Fn.of tblOK [0] _ _ _ _ _ Try.func89 rfl rfl (by kernel_rfl) (by kernel_rfl) rfl (drawOK tblOK) rfl ?_
  show TrQ _ _ _ _ _ _ _
  refine TrQ.leX (LeX.nameMap 1002 rfl) fun x => ?_
  obtain ⟨b, l, clock, hsnd, hrise, hlt⟩ := x
  refine TrQ.go tblOK (drawOK tblOK) [] (by kernel_rfl) (Le.refl _ _) ?_
  refine ⟨_, _, fun N => opOK_range (d := 11) rfl Try.underlying135 rfl rfl N, rfl, ?_⟩
  show TrQ _ _ _ _ _ _ _
  have hb : (l.map (·.1)).Nodup := hrise.imp fun h => by omega
  have hnd : (l.map eA).Nodup := by
    have := h.nd
    rw [← hsnd, List.map_map] at this
    exact this
  refine TrQ.loop tblOK (drawOK tblOK) [1] (by kernel_rfl) (X := List Nat) (fun _ => fcK ks) (fun seen => fcB room b clock seen l (mapP (crF ks l seen) L)) (fun _ => True) (fun seen => (unseenA seen l).length) [] trivial ?_ ?_
  · refine Le.sub ⟨rfl, rfl, rfl, trivial⟩ ⟨rfl, rfl, rfl, ?_, trivial⟩
    have : mapP (crF ks l []) L = L := by
      have : ∀ p : Nat × StM, (p.1, crF ks l [] p.1 p.2) = p := fun p => by
        unfold crF
        split <;> rfl
      unfold mapP
      simp only [this]
      exact List.map_id' L
    rw [this]
    rfl
  intro seen _
  show TrQ _ _ _ _ _ _ _
  refine TrQ.regionX tblOK (by kernel_rfl) ?_
  refine ⟨_, opS_next (c := 1002) (r := 11) rfl rfl rfl rfl (fun p hp => hlt _ (List.mem_map_of_mem hp)) (Nat.le_refl _), fun v e hv => ?_⟩
  rcases hv with ⟨p, hp, hs, rfl, rfl⟩ | ⟨hall, rfl, rfl⟩
  · have hpe : p.2 ∈ es := by rw [← hsnd]; exact List.mem_map_of_mem hp
    obtain ⟨a, ha, haL⟩ := h.ex _ hpe
    obtain ⟨m, hm⟩ := sget_of_mem haL
    have hmem := sget_mem hm
    have hfind := find_addr hnd hp (a := a) ha
    have hcur : crF ks l seen a m = m := by
      unfold crF
      rw [hfind]
      simp [hs]
    have hget : sget (mapP (crF ks l seen) L) a = some m := by rw [sget_mapP, hm, Option.map_some, hcur]
    have hset : sset (mapP (crF ks l seen) L) a (m.crash (keepOf ks (eK p))) = mapP (crF ks l (seen ++ [p.1])) L := by
      refine sset_mapP h.nl hm ?_ ?_
      · unfold crF
        rw [hfind]
        simp
      · intro b' hb' m'
        unfold crF
        cases e : l.find? fun e => decide (eA e = some b') with
        | none => rfl
        | some y =>
          have h1 : eA y = some b' := by simpa using List.find?_some e
          have hne : y.1 ≠ p.1 := fun e2 => by
            have := nodup_key hb (List.mem_of_find?_eq_some e) hp e2
            rw [this] at h1
            exact hb' (Option.some.inj (h1.symm.trans ha))
          simp [hne]
    have hst := h.ok _ hmem
    have hlo := h.few _ hmem
    obtain ⟨pb, pk, pa⟩ := p
    have ha : pa = some a := ha
    subst ha
    refine ⟨_, _, fun N => opOK_entry (c := 1002) (r := 11) rfl rfl rfl rfl hp N, rfl, ?_⟩
    refine ⟨rfl, ?_⟩
    refine ⟨_, _, _, _, Fn.ren [(1001, 4)] (kpIx_fn ks pk (by omega)), ⟨rfl, trivial⟩, rfl, ?_⟩
    refine ⟨fun h2 => ?_, fun h2 => ?_⟩
    · have h2 : kpI ks pk < 0 := of_decide_eq_true h2
      have hke : keepOf ks pk = [] := kpI_neg h2
      refine ⟨_, _, _, _, Fn.arg (poolFn (scrash_fn m [] (by simp) (by have := hlo; simp only at this; omega) hst.lw) hget rfl rfl) ⟨rfl, rfl, trivial⟩, ⟨rfl, trivial⟩, rfl, ?_⟩
      refine ⟨seen ++ [pb], trivial, unseenA_lt hp hs, Le.sub ⟨rfl, rfl, rfl, trivial⟩ ⟨rfl, rfl, rfl, ?_, trivial⟩⟩
      rw [← hset]
      show _ = some (Ch.obj (Ob.pool (poolS (sset _ a (m.crash (keepOf ks pk))))))
      rw [hke]
      rfl
    · have h2 : ¬ kpI ks pk < 0 := of_decide_eq_false h2
      obtain ⟨i, hi, ei, hke⟩ := kpI_pos h2
      refine ⟨by omega, ks[i], (by rw [show (kpI ks pk).toNat = i by omega]; exact lgAt (n := i) hi), ?_⟩
      refine ⟨_, _, _, _, poolFn (scrash_fn m (kL ks[i]) (by have := hkl _ (List.getElem_mem hi); omega) (by have := hlo; simp only at this; omega) hst.lw) hget rfl rfl, ⟨rfl, trivial⟩, rfl, ?_⟩
      refine ⟨seen ++ [pb], trivial, unseenA_lt hp hs, Le.sub ⟨rfl, rfl, rfl, trivial⟩ ⟨rfl, rfl, rfl, ?_, trivial⟩⟩
      rw [← hset]
      show _ = some (Ch.obj (Ob.pool (poolS (sset _ a (m.crash (keepOf ks pk))))))
      rw [hke]
      rfl
  · refine ⟨_, _, _, Le.mapOf 1002 rfl, rfl, trivial, ⟨rfl, ?_, ?_, trivial⟩, rfl⟩
    · show some (Ch.map .str .adr (l.map (·.2))) = _
      rw [hsnd]
    · show some (Ch.obj (Ob.pool (poolS (mapP (crF ks l seen) L)))) = _
      rw [mapP_congr (g := crE ks es) fun q _ => by rw [crF_all hall, hsnd]]
end Go.Proofs.Ythghcdddambaeaa
