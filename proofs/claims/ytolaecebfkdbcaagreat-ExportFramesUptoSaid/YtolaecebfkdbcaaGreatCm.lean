/-
  The keys of a map of texts, sorted: maps.Keys, slices.Sorted.
-/
import Derived.Test.YtolaecebfkdbcaaGreatTbl
import Derived.Test.YtolaecebfkdbcaaGreatLays
import Derived.Test.YtolaecebfkdbcaaGreatGrp
import Derived.Test.YtolaecebfkdbcaaGreatCl
import Derived.Test.YtolaecebfkdbcaaGreatVk
set_option linter.unusedVariables false
set_option linter.unusedSimpArgs false
set_option maxRecDepth 10000
namespace Go.Proofs.YtolaecebfkdbcaaGreat
open Go.RowKit Go.Proofs Go.Maps Go.Shelf Go.MapKept
open Go.WideElems (Fit rd rg pl rd_val rd_key rg_of)

/-- The keys of a map; sorted. -/
def keyL {vu : U} (p : El .str × El vu) : List UInt8 := p.1
def mkeys {vu : U} (es : List (El .str × El vu)) : List (List UInt8) := es.map keyL
def keysS {vu : U} (es : List (El .str × El vu)) : List (List UInt8) := (mkeys es).mergeSort leB
abbrev Rany : Value → Option (DataW Unit × List MemPlace) := fun _ => some (.nil, [])
theorem mapU_keys_str {I : Nat → Prop} {w : World} {vu : U} : ∀ {l : List (El .str × El vu)} {es : List MapEntry}, MapU I w .str vu l es → es.map (·.key) = (mkeys l).map encStr
  | [], _, h => by rw [show _ = [] from h]; rfl
  | p :: l, _, ⟨e, r, h, h1, _, h3⟩ => by
    rw [h, List.map_cons, mapU_keys_str h3, h1]
    rfl
theorem keyOf_enc {P : Program} {k : TypeId} (hk : P.underlying k = some .string) (s : List UInt8) (h : s.length ≤ maxLen) : keyOf P k (encStr s) = some (.string s) := by
  simp only [keyOf, hk, encStr, mapKey, ByteArray.size, List.size_toArray]
  rw [if_pos h]
theorem encStr_map_inj : ∀ {l m : List (List UInt8)}, l.map encStr = m.map encStr → l = m
  | [], [], _ => rfl
  | [], _ :: _, h => by simp at h
  | _ :: _, [], h => by simp at h
  | x :: l, y :: m, h => by
    simp only [List.map_cons, List.cons.injEq] at h
    rw [encStr_inj h.1, encStr_map_inj h.2]
theorem owns_of_map {P : Program} {k : TypeId} (hk : P.underlying k = some .string) {I : Nat → Prop} {w : World} {vu : U} {es : List (El .str × El vu)} {ents : List MapEntry} {clock b : Nat} (hb : w.heap[b]? = some (.map (List.toArray ents) clock))
    (hm : MapU I w .str vu es ents) (hB : Births ents clock) (hn : (mkeys es).Nodup) (hl : ∀ s ∈ mkeys es, s.length ≤ maxLen) (hs : es.length ≤ maxLen) :
    ∃ D0, w.ownsMap P k Rany b es.length D0 ∧ Maps.size D0 = es.length ∧ (strKeys D0).Perm (mkeys es) := by
  have hlen := mapU_length hm
  have hkeys := mapU_keys_str hm
  have hread : ∀ x ∈ ents, ∃ s : List UInt8, x.key = encStr s ∧ s.length ≤ maxLen ∧ rg P k Rany x = (.string s, .nil) ∧ ∃ y, rd P k Rany x = some y := by
    intro x hx
    have : x.key ∈ (mkeys es).map encStr := by rw [← hkeys]; exact List.mem_map_of_mem hx
    obtain ⟨s, hp, he⟩ := List.mem_map.1 this
    have hko : keyOf P k x.key = some (.string s) := he ▸ keyOf_enc hk _ (hl s hp)
    have hrd : rd P k Rany x = some (.string s, .nil) := by simp [rd, hko]
    exact ⟨s, he.symm, hl s hp, rg_of hrd, _, hrd⟩
  have hperm := Go.WideShapes.sorted_perm (ents.map (rg P k Rany))
  have hkk : (ents.map (rg P k Rany)).map (fun p => strOf p.1) = mkeys es := by
    refine encStr_map_inj ?_
    rw [← hkeys, List.map_map, List.map_map]
    refine List.map_congr_left fun x hx => ?_
    obtain ⟨s, e1, _, e2, _⟩ := hread x hx
    simp [e2, e1, strOf]
  refine ⟨.map ((ents.map (rg P k Rany)).foldr DataW.insert []), ⟨List.toArray ents, clock, hb, ⟨by simp [hlen]; exact hs, (stamped_iff _ _).2 ⟨hB.2, hB.1.imp fun h => by omega, ?_⟩, fun x hx => (hread x hx).choose_spec.2.2.2⟩, by simp [hlen], rfl⟩, ?_, ?_⟩
  · have h1 : (ents.map (·.key)).Pairwise (· ≠ ·) := by
      rw [hkeys]
      exact List.pairwise_map.2 (hn.imp fun hne e => hne (encStr_inj e))
    exact List.pairwise_map.1 h1
  · show List.length _ = _
    rw [hperm.length_eq, List.length_map, hlen]
  · show (List.map (fun p => strOf (Prod.fst p)) _).Perm _
    rw [← hkk]
    exact hperm.map _
theorem mapsKeys_fn (es : List (El .str × El .adr)) : Fn Tryz.prog 108 [.c (.one (.mp 1001))] [(1001, .map .str .adr es)] [2001] (.c (.one (.clo 133 [.p 2001 0]))) [(2001, .cells [.mp 1001]), (1001, .map .str .adr es)] := by
  refine Fn.of tblOK [] _ _ _ _ _ Tryz.func108 rfl rfl (by kernel_rfl) (by kernel_rfl) rfl (drawOK tblOK) rfl ?_
  refine ⟨rfl, ?_⟩
  exact ⟨_, _, _, Le.ren 1 2001 rfl, rfl, rfl, ⟨rfl, rfl, trivial⟩, rfl⟩
theorem Sl.denStr {I D : Nat → Prop} {w : World} {v : Value} {l : List (List UInt8)} (h : Sl D w 1 v l.length (l.map encStr)) (hD : ∀ b, b < w.heap.size → D b → I b) : DenU I w (.sl .str) l (fun _ => some v) := by
  obtain ⟨_, A, c, h0, h1, h2, h3⟩ := h
  refine ⟨A, c, congrArg some h0, h1, h2, fun hp => ?_⟩
  obtain ⟨b, o, hA, hb, hlt, hx⟩ := h3 hp
  refine ⟨b, o, hA, hD b hlt hb, fun i x hi => ?_⟩
  have := hx i (encStr x) (by rw [List.getElem?_map, show l[i]? = some x from hi]; rfl)
  simpa [DenU, sz, encStr] using this
theorem sortsIn (m : Nat) : AnyZ.SortsIn Tryz.prog Tryz.sorted107_ren Fence.wide m :=
  ⟨fun blk off cap ss W hH hblk hsz => callsIn_wide.2 (AnyM.slices_Sort_string Tryz.sort132 blk off cap ss W hH hblk hsz),
   fun p cap W => callsIn_wide.2 (AnyM.slices_Sort_string_none Tryz.sort132 p cap W)⟩
theorem sortedKeys_fn (es : List (El .str × El .adr)) (hn : (mkeys es).Nodup) (hl : ∀ s ∈ mkeys es, s.length ≤ maxLen) (hs : es.length ≤ 4294967296) :
    Fn Tryz.prog 107 [.c (.one (.clo 133 [.p 2001 0]))] [(2001, .cells [.mp 1001]), (1001, .map .str .adr es)] [] (vL .str (keysS es)) [(2001, .cells [.mp 1001]), (1001, .map .str .adr es)] := by
  refine ⟨by kernel_rfl, fun ρ F I w vals hI hH hF hdj hlen hden => ?_⟩
  match vals, hlen with
  | [v], _ =>
    obtain ⟨vs, hv, w0, r, hvs, hw0, hr⟩ := hden 0 _ v rfl rfl
    have hr : r = [] := hr
    have hw0 : w0 = .pointer (some ⟨(ρ 2001).blk, 0, none⟩) := hw0
    subst hr hw0 hvs hv
    obtain ⟨_, vs, T, hb1, hvs⟩ := hH 2001 _ rfl
    obtain ⟨x, r, hvs, hx, hr⟩ := hvs
    have hr : r = [] := hr
    have hx : x = .map (some (ρ 1001).blk) := hx
    subst hr hx hvs
    obtain ⟨_, ents, clock, hb2, hm, hB⟩ := hH 1001 _ rfl
    have hmaxl : (4294967296 : Nat) ≤ maxLen := by decide
    obtain ⟨D0, hown, hsz, hperm⟩ := owns_of_map (P := Tryz.prog) (k := 9) (by kernel_rfl) hb2 hm hB hn hl (by omega)
    have hlt : (ρ 2001).blk < w.heap.size := lt_of_heap hb1
    have hseq : SeqGives Fence.wide 2 Tryz.prog 133 #[.pointer (some ⟨(ρ 2001).blk, 0, none⟩)] encStr (fun ss => ss.Perm (strKeys D0)) (Maps.size D0) w :=
      AnyZ.keys_gives (ρ := Tryz.keys108_ren) { Tryz.keys108 with } Fence.wide _ trivial rfl (by omega) (ρ 2001).blk (ρ 1001).blk es.length D0 w hlt (cell_of hb1 rfl) hown
    have hc := AnyZ.sorted_in Tryz.sorted107 Fence.wide 5 trivial trivial trivial trivial rfl (by omega) (sortsIn _) (enters_of Tryz.func132 (by kernel_rfl) rfl) 133 #[.pointer (some ⟨(ρ 2001).blk, 0, none⟩)] trivial (enters_of Tryz.func133 (by kernel_rfl) rfl) _ _ (by rw [hsz]; omega) (by rw [hsz]; omega) _ hseq
    refine (callsIn_wide.1 hc).mono ?_
    rintro e w' ⟨v, ss, rfl, hS, hrow, hnil, hbel⟩
    have hE : Ext I w (fun b => b < w'.heap.size ∧ (I b ∨ w.heap.size ≤ b)) w' := fun b hbI => ⟨⟨Nat.lt_of_lt_of_le (hI b hbI) hbel.size, .inl hbI⟩, hbel.block b (hI b hbI)⟩
    refine ⟨v, ρ, F, rfl, Fr.of_below hbel, fun _ _ => rfl, _, hE, fun b h => ⟨h.1, h.2.imp id .inr⟩, fun c ch hc => Holds.stable hE (fun b hb => hbel.block b (hF c ch hc b hb).1) hbel.size ch (fun _ _ => rfl) (hH c ch hc), fun c ch hc b hb => ?_, fun c c' ch ch' b h1 h2 => hdj c c' ch ch' b h1 h2, ?_⟩
    · have := hF c ch hc b hb
      exact ⟨Nat.lt_of_lt_of_le this.1 hbel.size, fun h => (by rcases h.2 with h | h; exact this.2 h; omega), .inl ⟨c, ch, hc, hb⟩⟩
    · have hk : ss.mergeSort (fun x y => decide (x ≤ y)) = keysS es := Go.mergeSort_of_perm (hS.trans hperm)
      rw [hk] at hrow
      have hsl := Sl.of_own hrow
      have hln : ss.length = (keysS es).length := by rw [← hk, List.length_mergeSort]
      rw [hln] at hsl
      exact (hsl.weaken fun i _ hi => (hrow.lt i hi).1).denStr fun b h1 h2 => ⟨h1, .inr h2⟩
/-! Chains: Names, Users. -/
theorem mkeys_chE (L : List Dsk) : mkeys (chE L) = L.map (·.nm) := by
  unfold mkeys chE
  rw [List.map_map]
  rfl
def nmsS (L : List Dsk) : List (List UInt8) := keysS (chE L)
theorem nmsS_mem {L : List Dsk} {n : List UInt8} (h : n ∈ nmsS L) : ∃ d, dk L n = some d := by
  unfold nmsS keysS at h
  rw [List.mem_mergeSort, mkeys_chE] at h
  obtain ⟨d, hd, e⟩ := List.mem_map.1 h
  cases e2 : dk L n with
  | some d => exact ⟨d, rfl⟩
  | none =>
    unfold dk at e2
    have := List.find?_eq_none.1 e2 d hd
    simp [e] at this
theorem nmsS_len (L : List Dsk) : (nmsS L).length = L.length := by
  unfold nmsS keysS
  rw [List.length_mergeSort, mkeys_chE, List.length_map]
theorem names_fn (bits room : Int) (L : List Dsk) (hN : ChN L) (hl : ∀ d, d ∈ L → d.nm.length ≤ 100000) (h16 : L.length ≤ 100) : Fn Tryz.prog 77 [vP 1001] (chB bits room L) [] (vL .str (nmsS L)) (chB bits room L) := by
  have hk : (mkeys (chE L)).Nodup := by rw [mkeys_chE]; exact hN.nms
  have hm : ∀ s ∈ mkeys (chE L), s.length ≤ maxLen := fun s hs => by
    rw [mkeys_chE] at hs
    obtain ⟨d, hd, rfl⟩ := List.mem_map.1 hs
    exact Nat.le_trans (hl d hd) (by decide)
  have hs : (chE L).length ≤ 4294967296 := by unfold chE; rw [List.length_map]; omega
  refine Fn.of tblOK [] _ _ _ _ _ Tryz.func77 rfl rfl (by kernel_rfl) (by kernel_rfl) rfl (drawOK tblOK) rfl ?_
  refine ⟨_, _, _, _, Fn.ren [(1001, 1002), (2001, 5001)] (mapsKeys_fn (chE L)), ⟨rfl, trivial⟩, rfl, ?_⟩
  refine ⟨_, _, _, _, Fn.ren [(1001, 1002), (2001, 5001)] (sortedKeys_fn (chE L) hk hm hs), ⟨rfl, rfl, trivial⟩, rfl, ?_⟩
  exact ⟨_, _, _, Le.refl _ _, rfl, rfl, ⟨rfl, rfl, rfl, rfl, trivial⟩, rfl⟩
def isUsr (L : List Dsk) (nm n : List UInt8) : Bool := !decide (nm = []) && decide (((dk L n).map (·.back)).getD [] = nm)
def usrS (L : List Dsk) (nm : List UInt8) : List (List UInt8) := (nmsS L).filter (isUsr L nm)
@[reducible] def usK (nm : List UInt8) (l : List (List UInt8)) (j : Nat) : KL := [(0, vP 1001), (1, vS nm), (5, vOwn 5002), (9, vL .str l), (10, vI (l.length : Nat)), (11, vI (j : Nat))]
@[reducible] def usK2 (nm : List UInt8) (l : List (List UInt8)) (j : Nat) : KL := [(0, vP 1001), (1, vS nm), (5, vOwn 33), (9, vL .str l), (10, vI (l.length : Nat)), (11, vI (j : Nat))]
@[reducible] def usB (bits room : Int) (L : List Dsk) (x : List (List UInt8)) : BL := chB bits room L ++ [(5002, .row 9 .str x)]
@[reducible] def usB2 (bits room : Int) (L : List Dsk) (x : List (List UInt8)) : BL := chB bits room L ++ [(33, .row 9 .str x)]
set_option maxHeartbeats 1000000 in
theorem users_fn (bits room : Int) (L : List Dsk) (hN : ChN L) (hl : ∀ d, d ∈ L → d.nm.length ≤ 100000) (h16 : L.length ≤ 100) (nm : List UInt8) : Fn Tryz.prog 75 [vP 1001, vS nm] (chB bits room L) [] (vL .str (usrS L nm)) (chB bits room L) := by
  obtain ⟨ia, ia1, ia2⟩ := inf_of infStr
  have hmem := @nmsS_mem L
  have hlen := nmsS_len L
  have hnf := names_fn bits room L hN hl h16
  unfold usrS
  generalize nmsS L = l at *
  refine Fn.of tblOK [5,6,8] _ _ _ _ _ Tryz.func75 rfl rfl (by kernel_rfl) (by kernel_rfl) rfl (drawOK tblOK) rfl ?_
  refine ⟨_, _, _, _, hnf, ⟨rfl, rfl, rfl, rfl, trivial⟩, rfl, ?_⟩
  show TrQ _ _ _ _ _ _ _
  refine TrQ.loop tblOK (drawOK tblOK) [5,6,8] (by kernel_rfl) (X := Nat) (usK nm l) (fun j => usB bits room L ((l.take j).filter (isUsr L nm))) (fun j => j ≤ l.length) (fun j => l.length - j) 0 (Nat.zero_le _) ?_ ?_
  · exact (Le.nil 5 5002 9 .str rfl rfl).trans (Le.sub ⟨rfl, rfl, rfl, rfl, rfl, rfl, trivial⟩ ⟨rfl, rfl, rfl, rfl, rfl, trivial⟩)
  intro j hj
  refine ⟨fun h => ?_, fun h => ?_⟩
  · have h : decide ((j : Int) < (l.length : Nat)) = true := h
    have hj2 : j < l.length := by simpa using h
    obtain ⟨d, hd⟩ := hmem (List.getElem_mem hj2)
    have hLd := hN.D (dk_get hd).1
    have hx : (mget (ku := .str) (vu := .adr) (chE L) l[j]).getD (dflt .adr) = some d.ad := by rw [cget, hd]; rfl
    have hu : isUsr L nm l[j] = (!decide (nm = []) && decide (d.back = nm)) := by unfold isUsr; rw [hd]; rfl
    have hstep : (l.take (j + 1)).filter (isUsr L nm) = (l.take j).filter (isUsr L nm) ++ (if isUsr L nm l[j] = true then [l[j]] else []) := by
      rw [List.take_succ_eq_append_getElem hj2, List.filter_append]
      congr 1
      by_cases e : isUsr L nm l[j] = true
      · rw [if_pos e, List.filter_cons_of_pos e]; rfl
      · rw [if_neg e, List.filter_cons_of_neg e]; rfl
    have hfl : ((l.take j).filter (isUsr L nm)).length ≤ j := Nat.le_trans (List.length_filter_le _ _) (by rw [List.length_take]; omega)
    have m3 : (0 : Int) ≤ (j : Int) := by omega
    have m6 : (-9223372036854775808 : Int) ≤ (j : Int) + 1 ∧ (j : Int) + 1 ≤ 9223372036854775807 := by omega
    have keep : isUsr L nm l[j] = false → (l.take (j + 1)).filter (isUsr L nm) = (l.take j).filter (isUsr L nm) := fun e => by rw [hstep, if_neg (by rw [e]; decide), List.append_nil]
    refine ⟨m3, l[j], lgAt (n := j) hj2, ?_⟩
    generalize l[j] = n at *
    show TrQ _ _ _ _ _ _ _
    refine TrQ.go tblOK (drawOK tblOK) [6,8] (by kernel_rfl) (Le.sub (K' := (7, vS n) :: usK nm l j) (B' := usB bits room L ((l.take j).filter (isUsr L nm))) ⟨rfl, rfl, rfl, rfl, rfl, rfl, rfl, trivial⟩ ⟨rfl, rfl, rfl, rfl, rfl, trivial⟩) ?_
    refine ⟨fun h1 => ?_, fun h1 => ?_⟩
    · have h1 : ¬ nm = [] := by
        have h1 : (!decide (nm = [])) = true := h1
        simpa using h1
      refine ⟨_, _, fun N => opOK_nilAdr (b := d.ad) rfl (by exact adrV_eq hx) N, rfl, ?_⟩
      refine ⟨_, _, fun N => opOK_fieldAdr rfl Tryz.underlying124 rfl rfl ia1 (by rw [ia2]; decide) rfl N, rfl, ?_⟩
      refine ⟨_, _, fun N => opOK_loadRaw (q := 1003) rfl Tryz.underlying9 rfl rfl rfl hLd rfl N, rfl, ?_⟩
      refine ⟨fun h2 => ?_, fun h2 => ?_⟩
      · have h2 : d.back = nm := of_decide_eq_true h2
        have hu2 : isUsr L nm n = true := by rw [hu, decide_eq_false h1, decide_eq_true h2]; rfl
        rw [if_pos hu2] at hstep
        have m9 : ((l.take j).filter (isUsr L nm)).length + 1 ≤ 4294967296 := by omega
        show TrQ _ _ _ _ _ _ _
        refine TrQ.go tblOK (drawOK tblOK) [] (by kernel_rfl) (Le.sub (K' := (7, vS n) :: usK nm l j) (B' := usB bits room L ((l.take j).filter (isUsr L nm))) ⟨rfl, rfl, rfl, rfl, rfl, rfl, rfl, trivial⟩ ⟨rfl, rfl, rfl, rfl, rfl, trivial⟩) ?_
        refine ⟨m9, rfl, ?_⟩
        refine ⟨m6, j + 1, hj2, by omega, ?_⟩
        exact Le.trans (Le.sub (K' := usK2 nm l (j + 1)) (B' := usB2 bits room L ((l.take (j + 1)).filter (isUsr L nm))) ⟨rfl, rfl, rfl, rfl, rfl, rfl, trivial⟩ ⟨rfl, rfl, rfl, rfl, congrArg (fun l : List (List UInt8) => some (Ch.row 9 .str l)) hstep.symm, trivial⟩) (Le.ren 33 5002 rfl)
      · have h2 : ¬ d.back = nm := of_decide_eq_false h2
        have hk := keep (by rw [hu, decide_eq_false h2, Bool.and_false])
        exact ⟨m6, j + 1, hj2, by omega, Le.sub ⟨rfl, rfl, rfl, rfl, rfl, rfl, trivial⟩ ⟨rfl, rfl, rfl, rfl, congrArg (fun l : List (List UInt8) => some (Ch.row 9 .str l)) hk.symm, trivial⟩⟩
    · have h1 : nm = [] := by
        have h1 : (!decide (nm = [])) = false := h1
        simpa using h1
      have hk := keep (by rw [hu, decide_eq_true h1]; rfl)
      exact ⟨m6, j + 1, hj2, by omega, Le.sub ⟨rfl, rfl, rfl, rfl, rfl, rfl, trivial⟩ ⟨rfl, rfl, rfl, rfl, congrArg (fun l : List (List UInt8) => some (Ch.row 9 .str l)) hk.symm, trivial⟩⟩
  · have h : decide ((j : Int) < (l.length : Nat)) = false := h
    have hj2 : j = l.length := by simp at h; omega
    subst hj2
    have ht : (l.take l.length).filter (isUsr L nm) = l.filter (isUsr L nm) := by rw [List.take_length]
    show TrQ _ _ _ _ _ _ _
    refine TrQ.go tblOK (drawOK tblOK) [] (by kernel_rfl) (Le.refl _ _) ?_
    exact ⟨_, _, _, Le.frz 5002 rfl, rfl, ht, ⟨rfl, rfl, rfl, rfl, trivial⟩, rfl⟩
/-! Chains: Remove. -/
def ldel : List Dsk → List UInt8 → List Dsk
  | [], _ => []
  | d :: L, nm => if d.nm = nm then L else d :: ldel L nm
theorem dk_cons (d : Dsk) (L : List Dsk) (nm : List UInt8) : dk (d :: L) nm = if d.nm = nm then some d else dk L nm := by
  unfold dk
  rw [List.find?_cons]
  by_cases e : d.nm = nm
  · rw [decide_eq_true e, if_pos e]
  · rw [decide_eq_false e, if_neg e]
theorem ldel_mem {L : List Dsk} {nm : List UInt8} {d : Dsk} (h : d ∈ ldel L nm) : d ∈ L := by
  induction L with
  | nil => exact h
  | cons e L ih =>
    unfold ldel at h
    split at h
    · exact List.mem_cons_of_mem _ h
    · rcases List.mem_cons.1 h with rfl | h
      · exact List.mem_cons_self ..
      · exact List.mem_cons_of_mem _ (ih h)
theorem ldel_sub (L : List Dsk) (nm : List UInt8) : (ldel L nm).Sublist L := by
  induction L with
  | nil => exact .slnil
  | cons e L ih =>
    unfold ldel
    split
    · exact List.sublist_cons_self ..
    · exact ih.cons_cons _
theorem ldel_E (nm : List UInt8) : ∀ L : List Dsk, mdel (ku := .str) (vu := .adr) (chE L) nm = chE (ldel L nm)
  | [] => rfl
  | d :: L => by
    have ih := ldel_E nm L
    show mdel (ku := .str) (vu := .adr) (mkE d :: chE L) nm = _
    rw [show mdel (ku := .str) (vu := .adr) (mkE d :: chE L) nm = match eqKey .str (nm : El .str) (mkE d).1 with | true => chE L | false => mkE d :: mdel (ku := .str) (vu := .adr) (chE L) nm from rfl]
    unfold ldel
    by_cases e : d.nm = nm
    · rw [show eqKey .str (nm : El .str) (mkE d).1 = true from (eqKey_str _ _).2 e.symm, if_pos e]
    · rw [show eqKey .str (nm : El .str) (mkE d).1 = false from eqKey_ne (ku := .str) eqKey_str (fun h => e h.symm), if_neg e]
      simp only
      rw [ih]
      rfl
theorem pdel_map {f : Dsk → Nat × Ob} : ∀ {L : List Dsk}, (L.map fun d => (f d).1).Nodup → ∀ {nm : List UInt8} {d0 : Dsk}, dk L nm = some d0 → pdel (L.map f) (f d0).1 = (ldel L nm).map f
  | [], _, nm, d0, h => by cases h
  | d :: L, hn, nm, d0, h => by
    rw [List.map_cons] at hn
    obtain ⟨n1, n2⟩ := List.nodup_cons.1 hn
    rw [dk_cons] at h
    rw [List.map_cons]
    unfold pdel ldel
    by_cases e : d.nm = nm
    · rw [if_pos e] at h
      injection h with h
      subst h
      rw [if_pos rfl, if_pos e]
    · rw [if_neg e] at h
      have hne : ¬ (f d).1 = (f d0).1 := fun e2 => n1 (by rw [e2]; exact List.mem_map_of_mem (f := fun d => (f d).1) (dk_get h).1)
      rw [if_neg hne, if_neg e, List.map_cons, pdel_map n2 h]
theorem ChN.del {L : List Dsk} (h : ChN L) (nm : List UInt8) : ChN (ldel L nm) :=
  ⟨h.nms.sublist ((ldel_sub L nm).map _), h.ads.sublist ((ldel_sub L nm).map _), h.ams.sublist ((ldel_sub L nm).map _)⟩
theorem remove_none (bits room : Int) (L : List Dsk) (nm : List UInt8) (h0 : dk L nm = none) : Fn Tryz.prog 46 [vP 1001, vS nm] (chB bits room L) [] (vI 140) (chB bits room L) := by
  have hx : (mget (ku := .str) (vu := .adr) (chE L) nm).getD (dflt .adr) = none := by rw [cget, h0]; rfl
  refine Fn.of tblOK [] _ _ _ _ _ Tryz.func46 rfl rfl (by kernel_rfl) (by kernel_rfl) rfl (drawOK tblOK) rfl ?_
  refine ⟨fun b' hb => absurd (show (mget (ku := .str) (vu := .adr) (chE L) nm).getD (dflt .adr) = some b' from hb) (by rw [hx]; intro h; cases h), fun _ => ?_⟩
  exact ⟨_, _, _, Le.refl _ _, rfl, rfl, ⟨rfl, rfl, rfl, rfl, trivial⟩, rfl⟩
theorem remove_use (bits room : Int) (L : List Dsk) (hN : ChN L) (hl : ∀ d, d ∈ L → d.nm.length ≤ 100000) (h16 : L.length ≤ 100) (nm : List UInt8) (d0 : Dsk) (h0 : dk L nm = some d0) (hu : usrS L nm ≠ []) : Fn Tryz.prog 46 [vP 1001, vS nm] (chB bits room L) [] (vI 143) (chB bits room L) := by
  have hx : (mget (ku := .str) (vu := .adr) (chE L) nm).getD (dflt .adr) = some d0.ad := by rw [cget, h0]; rfl
  have huf := users_fn bits room L hN hl h16 nm
  have hpos : 0 < (usrS L nm).length := List.length_pos_iff.2 hu
  generalize usrS L nm = us at *
  refine Fn.of tblOK [] _ _ _ _ _ Tryz.func46 rfl rfl (by kernel_rfl) (by kernel_rfl) rfl (drawOK tblOK) rfl ?_
  refine ⟨fun b' hb => ?_, fun hb => absurd (show (mget (ku := .str) (vu := .adr) (chE L) nm).getD (dflt .adr) = none from hb) (by rw [hx]; intro h; cases h)⟩
  refine ⟨_, _, _, _, huf, ⟨rfl, rfl, rfl, rfl, trivial⟩, rfl, ?_⟩
  refine ⟨fun _ => ?_, fun h => ?_⟩
  · exact ⟨_, _, _, Le.refl _ _, rfl, rfl, ⟨rfl, rfl, rfl, rfl, trivial⟩, rfl⟩
  · exfalso
    have h : ¬ (0 : Int) < ((us.length : Nat) : Int) := of_decide_eq_false h
    omega
theorem remove_fn (bits room : Int) (L : List Dsk) (hN : ChN L) (hl : ∀ d, d ∈ L → d.nm.length ≤ 100000) (h16 : L.length ≤ 100) (nm : List UInt8) (d0 : Dsk) (h0 : dk L nm = some d0) (hu : usrS L nm = []) : Fn Tryz.prog 46 [vP 1001, vS nm] (chB bits room L) [] (vI 0) (chB bits room (ldel L nm)) := by
  have hx : (mget (ku := .str) (vu := .adr) (chE L) nm).getD (dflt .adr) = some d0.ad := by rw [cget, h0]; rfl
  have huf := users_fn bits room L hN hl h16 nm
  rw [hu] at huf
  have hLd := hN.D (dk_get h0).1
  have hLm := hN.M (dk_get h0).1
  have eE := ldel_E nm L
  have eD : pdel (chD L) d0.ad = chD (ldel L nm) := pdel_map (f := fun d => (d.ad, dskO d.am d.back)) hN.ads h0
  have eM : pdel (chM L) d0.am = chM (ldel L nm) := pdel_map (f := fun d => (d.am, imX d)) hN.ams h0
  refine Fn.of tblOK [5] _ _ _ _ _ Tryz.func46 rfl rfl (by kernel_rfl) (by kernel_rfl) rfl (drawOK tblOK) rfl ?_
  refine ⟨fun b' hb => ?_, fun hb => absurd (show (mget (ku := .str) (vu := .adr) (chE L) nm).getD (dflt .adr) = none from hb) (by rw [hx]; intro h; cases h)⟩
  refine ⟨_, _, _, _, huf, ⟨rfl, rfl, rfl, rfl, trivial⟩, rfl, ?_⟩
  refine ⟨fun h => absurd h (by decide), fun _ => ?_⟩
  show TrQ _ _ _ _ _ _ _
  refine TrQ.go tblOK (drawOK tblOK) [] (by kernel_rfl) (Le.sub (K' := [(0, vP 1001), (1, vS nm)]) (B' := chB bits room L) ⟨rfl, rfl, trivial⟩ ⟨rfl, rfl, rfl, rfl, trivial⟩) ?_
  exact ⟨_, _, _, (Le.takeOut 1003 5001 d0.ad rfl hLd rfl).trans (Le.takeOut 1004 5002 d0.am rfl hLm rfl), rfl, rfl, ⟨rfl, congrArg (fun e => some (Ch.map .str .adr e)) eE, congrArg (fun e => some (Ch.obj (.pool e))) eD, congrArg (fun e => some (Ch.obj (.pool e))) eM, trivial⟩, rfl⟩
end Go.Proofs.YtolaecebfkdbcaaGreat
