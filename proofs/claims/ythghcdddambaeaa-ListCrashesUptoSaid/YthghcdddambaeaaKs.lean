/-
  The keys of a map of texts, sorted: maps.Keys, slices.Sorted.
-/
import Derived.Test.YthghcdddambaeaaTbl
import Derived.Test.YthghcdddambaeaaLays
import Derived.Test.YthghcdddambaeaaGrp
set_option linter.unusedVariables false
set_option linter.unusedSimpArgs false
set_option maxRecDepth 10000
namespace Go.Proofs.Ythghcdddambaeaa
open Go.RowKit Go.Proofs Go.Maps Go.Shelf Go.MapKept
open Go.WideElems (Fit rd rg pl rd_val rd_key rg_of)

/-- The keys of a map; sorted. -/
def keyL {vu : U} (p : El .str × El vu) : List UInt8 := p.1
def mkeys {vu : U} (es : List (El .str × El vu)) : List (List UInt8) := es.map keyL
def keysS {vu : U} (es : List (El .str × El vu)) : List (List UInt8) := (mkeys es).mergeSort leB
abbrev Rany : Value → Option (DataW Unit × List MemPlace) := fun _ => some (.nil, [])
theorem mapU_keys_str {I : Nat → Prop} {w : World} {vu : U} : ∀ {l : List (El .str × El vu)} {es : List MapEntry}, MapU I w .str vu l es → es.map (·.key) = (mkeys l).map encStr
  | [], _, h => by rw [show _ = [] from h]; rfl
  | p :: l, _, ⟨e, r, h, h1, _, h3⟩ => by
    rw [h, List.map_cons, mapU_keys_str h3, h1]
    rfl
theorem keyOf_enc {P : Program} {k : TypeId} (hk : P.underlying k = some .string) (s : List UInt8) (h : s.length ≤ maxLen) : keyOf P k (encStr s) = some (.string s) := by
  simp only [keyOf, hk, encStr, mapKey, ByteArray.size, List.size_toArray]
  rw [if_pos h]
theorem encStr_map_inj : ∀ {l m : List (List UInt8)}, l.map encStr = m.map encStr → l = m
  | [], [], _ => rfl
  | [], _ :: _, h => by simp at h
  | _ :: _, [], h => by simp at h
  | x :: l, y :: m, h => by
    simp only [List.map_cons, List.cons.injEq] at h
    rw [encStr_inj h.1, encStr_map_inj h.2]
theorem owns_of_map {P : Program} {k : TypeId} (hk : P.underlying k = some .string) {I : Nat → Prop} {w : World} {vu : U} {es : List (El .str × El vu)} {ents : List MapEntry} {clock b : Nat} (hb : w.heap[b]? = some (.map (List.toArray ents) clock))
    (hm : MapU I w .str vu es ents) (hB : Births ents clock) (hn : (mkeys es).Nodup) (hl : ∀ s ∈ mkeys es, s.length ≤ maxLen) (hs : es.length ≤ maxLen) :
    ∃ D0, w.ownsMap P k Rany b es.length D0 ∧ Maps.size D0 = es.length ∧ (strKeys D0).Perm (mkeys es) := by
  have hlen := mapU_length hm
  have hkeys := mapU_keys_str hm
  have hread : ∀ x ∈ ents, ∃ s : List UInt8, x.key = encStr s ∧ s.length ≤ maxLen ∧ rg P k Rany x = (.string s, .nil) ∧ ∃ y, rd P k Rany x = some y := by
    intro x hx
    have : x.key ∈ (mkeys es).map encStr := by rw [← hkeys]; exact List.mem_map_of_mem hx
    obtain ⟨s, hp, he⟩ := List.mem_map.1 this
    have hko : keyOf P k x.key = some (.string s) := he ▸ keyOf_enc hk _ (hl s hp)
    have hrd : rd P k Rany x = some (.string s, .nil) := by simp [rd, hko]
    exact ⟨s, he.symm, hl s hp, rg_of hrd, _, hrd⟩
  have hperm := Go.WideShapes.sorted_perm (ents.map (rg P k Rany))
  have hkk : (ents.map (rg P k Rany)).map (fun p => strOf p.1) = mkeys es := by
    refine encStr_map_inj ?_
    rw [← hkeys, List.map_map, List.map_map]
    refine List.map_congr_left fun x hx => ?_
    obtain ⟨s, e1, _, e2, _⟩ := hread x hx
    simp [e2, e1, strOf]
  refine ⟨.map ((ents.map (rg P k Rany)).foldr DataW.insert []), ⟨List.toArray ents, clock, hb, ⟨by simp [hlen]; exact hs, (stamped_iff _ _).2 ⟨hB.2, hB.1.imp fun h => by omega, ?_⟩, fun x hx => (hread x hx).choose_spec.2.2.2⟩, by simp [hlen], rfl⟩, ?_, ?_⟩
  · have h1 : (ents.map (·.key)).Pairwise (· ≠ ·) := by
      rw [hkeys]
      exact List.pairwise_map.2 (hn.imp fun hne e => hne (encStr_inj e))
    exact List.pairwise_map.1 h1
  · show List.length _ = _
    rw [hperm.length_eq, List.length_map, hlen]
  · show (List.map (fun p => strOf (Prod.fst p)) _).Perm _
    rw [← hkk]
    exact hperm.map _
theorem mapsKeys_fn (es : List (El .str × El .adr)) : Fn Try.prog 93 [.c (.one (.mp 1001))] [(1001, .map .str .adr es)] [2001] (.c (.one (.clo 124 [.p 2001 0]))) [(2001, .cells [.mp 1001]), (1001, .map .str .adr es)] := by
  refine Fn.of tblOK [] _ _ _ _ _ Try.func93 rfl rfl (by kernel_rfl) (by kernel_rfl) rfl (drawOK tblOK) rfl ?_
  refine ⟨rfl, ?_⟩
  exact ⟨_, _, _, Le.ren 1 2001 rfl, rfl, rfl, ⟨rfl, rfl, trivial⟩, rfl⟩
theorem Sl.denStr {I D : Nat → Prop} {w : World} {v : Value} {l : List (List UInt8)} (h : Sl D w 1 v l.length (l.map encStr)) (hD : ∀ b, b < w.heap.size → D b → I b) : DenU I w (.sl .str) l (fun _ => some v) := by
  obtain ⟨_, A, c, h0, h1, h2, h3⟩ := h
  refine ⟨A, c, congrArg some h0, h1, h2, fun hp => ?_⟩
  obtain ⟨b, o, hA, hb, hlt, hx⟩ := h3 hp
  refine ⟨b, o, hA, hD b hlt hb, fun i x hi => ?_⟩
  have := hx i (encStr x) (by rw [List.getElem?_map, show l[i]? = some x from hi]; rfl)
  simpa [DenU, sz, encStr] using this
theorem sortsIn (m : Nat) : AnyZ.SortsIn Try.prog Try.sorted92_ren Fence.wide m :=
  ⟨fun blk off cap ss W hH hblk hsz => callsIn_wide.2 (AnyM.slices_Sort_string Try.sort123 blk off cap ss W hH hblk hsz),
   fun p cap W => callsIn_wide.2 (AnyM.slices_Sort_string_none Try.sort123 p cap W)⟩
theorem sortedKeys_fn (es : List (El .str × El .adr)) (hn : (mkeys es).Nodup) (hl : ∀ s ∈ mkeys es, s.length ≤ maxLen) (hs : es.length ≤ 4294967296) :
    Fn Try.prog 92 [.c (.one (.clo 124 [.p 2001 0]))] [(2001, .cells [.mp 1001]), (1001, .map .str .adr es)] [] (vL .str (keysS es)) [(2001, .cells [.mp 1001]), (1001, .map .str .adr es)] := by
  refine ⟨by kernel_rfl, fun ρ F I w vals hI hH hF hdj hlen hden => ?_⟩
  match vals, hlen with
  | [v], _ =>
    obtain ⟨vs, hv, w0, r, hvs, hw0, hr⟩ := hden 0 _ v rfl rfl
    have hr : r = [] := hr
    have hw0 : w0 = .pointer (some ⟨(ρ 2001).blk, 0, none⟩) := hw0
    subst hr hw0 hvs hv
    obtain ⟨_, vs, T, hb1, hvs⟩ := hH 2001 _ rfl
    obtain ⟨x, r, hvs, hx, hr⟩ := hvs
    have hr : r = [] := hr
    have hx : x = .map (some (ρ 1001).blk) := hx
    subst hr hx hvs
    obtain ⟨_, ents, clock, hb2, hm, hB⟩ := hH 1001 _ rfl
    have hmaxl : (4294967296 : Nat) ≤ maxLen := by decide
    obtain ⟨D0, hown, hsz, hperm⟩ := owns_of_map (P := Try.prog) (k := 9) (by kernel_rfl) hb2 hm hB hn hl (by omega)
    have hlt : (ρ 2001).blk < w.heap.size := lt_of_heap hb1
    have hseq : SeqGives Fence.wide 2 Try.prog 124 #[.pointer (some ⟨(ρ 2001).blk, 0, none⟩)] encStr (fun ss => ss.Perm (strKeys D0)) (Maps.size D0) w :=
      AnyZ.keys_gives (ρ := Try.keys93_ren) { Try.keys93 with } Fence.wide _ trivial rfl (by omega) (ρ 2001).blk (ρ 1001).blk es.length D0 w hlt (cell_of hb1 rfl) hown
    have hc := AnyZ.sorted_in Try.sorted92 Fence.wide 5 trivial trivial trivial trivial rfl (by omega) (sortsIn _) (enters_of Try.func123 (by kernel_rfl) rfl) 124 #[.pointer (some ⟨(ρ 2001).blk, 0, none⟩)] trivial (enters_of Try.func124 (by kernel_rfl) rfl) _ _ (by rw [hsz]; omega) (by rw [hsz]; omega) _ hseq
    refine (callsIn_wide.1 hc).mono ?_
    rintro e w' ⟨v, ss, rfl, hS, hrow, hnil, hbel⟩
    have hE : Ext I w (fun b => b < w'.heap.size ∧ (I b ∨ w.heap.size ≤ b)) w' := fun b hbI => ⟨⟨Nat.lt_of_lt_of_le (hI b hbI) hbel.size, .inl hbI⟩, hbel.block b (hI b hbI)⟩
    refine ⟨v, ρ, F, rfl, Fr.of_below hbel, fun _ _ => rfl, _, hE, fun b h => ⟨h.1, h.2.imp id .inr⟩, fun c ch hc => Holds.stable hE (fun b hb => hbel.block b (hF c ch hc b hb).1) hbel.size ch (fun _ _ => rfl) (hH c ch hc), fun c ch hc b hb => ?_, fun c c' ch ch' b h1 h2 => hdj c c' ch ch' b h1 h2, ?_⟩
    · have := hF c ch hc b hb
      exact ⟨Nat.lt_of_lt_of_le this.1 hbel.size, fun h => (by rcases h.2 with h | h; exact this.2 h; omega), .inl ⟨c, ch, hc, hb⟩⟩
    · have hk : ss.mergeSort (fun x y => decide (x ≤ y)) = keysS es := Go.mergeSort_of_perm (hS.trans hperm)
      rw [hk] at hrow
      have hsl := Sl.of_own hrow
      have hln : ss.length = (keysS es).length := by rw [← hk, List.length_mergeSort]
      rw [hln] at hsl
      exact (hsl.weaken fun i _ hi => (hrow.lt i hi).1).denStr fun b h1 h2 => ⟨h1, .inr h2⟩
end Go.Proofs.Ythghcdddambaeaa
