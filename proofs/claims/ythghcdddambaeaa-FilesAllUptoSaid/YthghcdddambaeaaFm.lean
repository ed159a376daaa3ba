/-
  Files: what a call of a script makes of them; the law's does.
-/
import Derived.Test.YthghcdddambaeaaFk
import Derived.Test.YthghcdddambaeaaFn
set_option linter.unusedVariables false
set_option linter.unusedSimpArgs false
set_option maxRecDepth 10000
namespace Go.Proofs.Ythghcdddambaeaa
open Go.RowKit Go.Proofs
abbrev FMap := List (El .str × El .adr)
/-! ### the map of names -/
def putA (es : FMap) (k : List UInt8) (a : Option Nat) : FMap := mput es (k : El .str) (a : El .adr)
def delA (es : FMap) (k : List UInt8) : FMap := mdel es (k : El .str)
def mkA (k : List UInt8) (a : Option Nat) : El .str × El .adr := (k, a)
def eqA (k : List UInt8) (p : El .str × El .adr) : Bool := eqKey .str (k : El .str) p.1
theorem eqA_iff {k : List UInt8} {p : El .str × El .adr} : eqA k p = true ↔ k = pK p := eqKey_str _ _
theorem eqA_no {k : List UInt8} {p : El .str × El .adr} (h : eqA k p = false) : k ≠ pK p := fun e => by rw [eqA_iff.2 e] at h; cases h
theorem putA_nil (k : List UInt8) (a : Option Nat) : putA [] k a = [mkA k a] := rfl
theorem putA_cons (p : El .str × El .adr) (l : FMap) (k : List UInt8) (a : Option Nat) : putA (p :: l) k a = match eqA k p with | true => mkA k a :: l | false => p :: putA l k a := rfl
theorem delA_cons (p : El .str × El .adr) (l : FMap) (k : List UInt8) : delA (p :: l) k = match eqA k p with | true => l | false => p :: delA l k := rfl
theorem fget_cons (p : El .str × El .adr) (l : FMap) (k : List UInt8) : fget (p :: l) k = match eqA k p with | true => pA p | false => fget l k := by
  unfold fget
  show (match eqA k p with | true => some p.2 | false => mget l (k : El .str)).getD (dflt .adr) = _
  cases eqA k p <;> rfl
theorem mkeys_cons (p : El .str × El .adr) (l : FMap) : mkeys (p :: l) = pK p :: mkeys l := rfl
theorem mkeys_nil : mkeys ([] : FMap) = [] := rfl
theorem mem_mkeys_put {k j : List UInt8} {a : Option Nat} : ∀ {l : FMap}, j ∈ mkeys (putA l k a) ↔ j = k ∨ j ∈ mkeys l
  | [] => by rw [putA_nil, mkeys_cons, List.mem_cons]; rfl
  | p :: l => by
    rw [putA_cons]
    cases e : eqA k p with
    | true => rw [mkeys_cons, mkeys_cons, ← eqA_iff.1 e, show pK (mkA k a) = k from rfl]; simp
    | false =>
      simp only
      rw [mkeys_cons, mkeys_cons, List.mem_cons, List.mem_cons, mem_mkeys_put]
      constructor
      · rintro (h | h | h)
        · exact .inr (.inl h)
        · exact .inl h
        · exact .inr (.inr h)
      · rintro (h | h | h)
        · exact .inr (.inl h)
        · exact .inl h
        · exact .inr (.inr h)
theorem nodup_mkeys_put {k : List UInt8} {a : Option Nat} : ∀ {l : FMap}, (mkeys l).Nodup → (mkeys (putA l k a)).Nodup
  | [], _ => by rw [putA_nil, mkeys_cons]; exact List.nodup_cons.2 ⟨fun h => (by cases h), List.nodup_nil⟩
  | p :: l, h => by
    rw [mkeys_cons, List.nodup_cons] at h
    rw [putA_cons]
    cases e : eqA k p with
    | true =>
      simp only
      rw [mkeys_cons, show pK (mkA k a) = k from rfl, eqA_iff.1 e]
      exact List.nodup_cons.2 h
    | false =>
      simp only
      rw [mkeys_cons]
      refine List.nodup_cons.2 ⟨fun hm => ?_, nodup_mkeys_put h.2⟩
      rcases mem_mkeys_put.1 hm with hh | hh
      · exact eqA_no e hh.symm
      · exact h.1 hh
theorem length_put (k : List UInt8) (a : Option Nat) : ∀ l : FMap, (putA l k a).length ≤ l.length + 1
  | [] => Nat.le_refl _
  | p :: l => by
    rw [putA_cons]
    split
    · simp
    · have := length_put k a l
      simp only [List.length_cons]
      omega
theorem delA_sub (k : List UInt8) : ∀ l : FMap, (delA l k).Sublist l
  | [] => List.Sublist.refl _
  | p :: l => by
    rw [delA_cons]
    split
    · exact List.sublist_cons_self _ _
    · exact (delA_sub k l).cons_cons p
theorem mem_pA_put {k : List UInt8} {a : Option Nat} {x : Option Nat} : ∀ {l : FMap}, x ∈ (putA l k a).map pA → x = a ∨ x ∈ l.map pA
  | [], h => by
    rw [putA_nil, List.map_singleton, List.mem_singleton] at h
    exact .inl h
  | p :: l, h => by
    rw [putA_cons] at h
    split at h
    · rcases List.mem_cons.1 h with h | h
      · exact .inl h
      · exact .inr (List.mem_cons_of_mem _ h)
    · rcases List.mem_cons.1 h with h | h
      · exact .inr (h ▸ List.mem_cons_self ..)
      · rcases mem_pA_put h with h | h
        · exact .inl h
        · exact .inr (List.mem_cons_of_mem _ h)
theorem nodup_pA_put {k : List UInt8} {a : Option Nat} : ∀ {l : FMap}, (l.map pA).Nodup → a ∉ l.map pA → ((putA l k a).map pA).Nodup
  | [], _, _ => by rw [putA_nil]; simp
  | p :: l, h, hn => by
    rw [List.map_cons, List.nodup_cons] at h
    rw [List.map_cons, List.mem_cons, not_or] at hn
    rw [putA_cons]
    split
    · rw [List.map_cons]
      exact List.nodup_cons.2 ⟨hn.2, h.2⟩
    · rw [List.map_cons]
      refine List.nodup_cons.2 ⟨fun hm => ?_, nodup_pA_put h.2 hn.2⟩
      rcases mem_pA_put hm with e | e
      · exact hn.1 e.symm
      · exact h.1 e
theorem fget_mem {k : List UInt8} {a : Nat} : ∀ {l : FMap}, fget l k = some a → mkA k (some a) ∈ l
  | [], h => by cases h
  | p :: l, h => by
    rw [fget_cons] at h
    split at h
    · rename_i e
      have e := eqA_iff.1 e
      refine List.mem_cons.2 (.inl ?_)
      show (k, (some a : Option Nat)) = p
      rw [← h, e]
      rfl
    · exact List.mem_cons_of_mem _ (fget_mem h)
theorem mem_put {k : List UInt8} {a : Option Nat} {p : El .str × El .adr} : ∀ {l : FMap}, p ∈ putA l k a → p = mkA k a ∨ p ∈ l
  | [], h => by rw [putA_nil, List.mem_singleton] at h; exact .inl h
  | q :: l, h => by
    rw [putA_cons] at h
    split at h
    · rcases List.mem_cons.1 h with h | h
      · exact .inl h
      · exact .inr (List.mem_cons_of_mem _ h)
    · rcases List.mem_cons.1 h with h | h
      · exact .inr (h ▸ List.mem_cons_self ..)
      · rcases mem_put h with h | h
        · exact .inl h
        · exact .inr (List.mem_cons_of_mem _ h)
/-- What is taken away has its address alone. -/
theorem del_pA {k : List UInt8} {a : Nat} : ∀ {l : FMap}, fget l k = some a → (l.map pA).Nodup → (some a : Option Nat) ∉ (delA l k).map pA ∧ (delA l k).length + 1 = l.length
  | [], h, _ => by cases h
  | p :: l, h, hn => by
    rw [List.map_cons, List.nodup_cons] at hn
    rw [fget_cons] at h
    rw [delA_cons]
    cases e : eqA k p with
    | true =>
      rw [e] at h
      have h : pA p = some a := h
      exact ⟨h ▸ hn.1, rfl⟩
    | false =>
      rw [e] at h
      obtain ⟨h1, h2⟩ := del_pA h hn.2
      refine ⟨?_, by simp only [List.length_cons]; omega⟩
      simp only
      rw [List.map_cons, List.mem_cons, not_or]
      refine ⟨fun e2 => ?_, h1⟩
      exact hn.1 (e2 ▸ List.mem_map_of_mem (f := pA) (fget_mem h))
/-! ### the states -/
theorem NamesOK.put {es : FMap} (h : NamesOK es) {k : List UInt8} {a : Option Nat} (hk : nameOK k = true) (hl : (putA es k a).length ≤ 16) : NamesOK (putA es k a) :=
  ⟨nodup_mkeys_put h.nd, fun s hs => by
    rcases mem_mkeys_put.1 hs with rfl | hs
    · exact hk
    · exact h.ok s hs, hl⟩
theorem NamesOK.del {es : FMap} (h : NamesOK es) (k : List UInt8) : NamesOK (delA es k) :=
  ⟨h.nd.sublist ((delA_sub k es).map _), fun s hs => h.ok s (((delA_sub k es).map _).subset hs), Nat.le_trans (delA_sub k es).length_le h.few⟩
theorem PoolOK.del {es : FMap} {L : SPool} {W : Nat} (h : PoolOK es L W) (k : List UInt8) : PoolOK (delA es k) L W :=
  ⟨fun p hp => h.ex p ((delA_sub k es).subset hp), h.nd.sublist ((delA_sub k es).map _), h.nl, h.ok, h.few⟩
theorem PoolOK.add {es : FMap} {L : SPool} {W : Nat} (h : PoolOK es L W) {k : List UInt8} {b : Nat} {m : StM} (hb : b ∉ L.map (·.1)) (hm : StOK m) (hl : m.loose.length ≤ W) : PoolOK (putA es k (some b)) ((b, m) :: L) W := by
  refine ⟨fun p hp => ?_, nodup_pA_put h.nd fun hx => ?_, List.nodup_cons.2 ⟨hb, h.nl⟩, fun p hp => ?_, fun p hp => ?_⟩
  · rcases mem_put hp with rfl | hp
    · exact ⟨b, rfl, List.mem_cons_self ..⟩
    · obtain ⟨a, h1, h2⟩ := h.ex p hp
      exact ⟨a, h1, List.mem_cons_of_mem _ h2⟩
  · obtain ⟨p, hp, e⟩ := List.mem_map.1 hx
    obtain ⟨a, h1, h2⟩ := h.ex p hp
    rw [e] at h1
    injection h1 with h1
    exact hb (h1 ▸ h2)
  · rcases List.mem_cons.1 hp with rfl | hp
    · exact hm
    · exact h.ok p hp
  · rcases List.mem_cons.1 hp with rfl | hp
    · exact hl
    · exact h.few p hp
theorem PoolOK.ren {es : FMap} {L : SPool} {W : Nat} (h : PoolOK es L W) {fr to : List UInt8} {a : Nat} (hf : fget es fr = some a) : PoolOK (putA (delA es fr) to (some a)) L W := by
  refine ⟨fun p hp => ?_, nodup_pA_put (h.del fr).nd (del_pA hf h.nd).1, h.nl, h.ok, h.few⟩
  rcases mem_put hp with rfl | hp
  · obtain ⟨a', h1, h2⟩ := h.ex _ (fget_mem hf)
    exact ⟨a', h1, h2⟩
  · exact (h.del fr).ex p hp
theorem mapP_fst (f : Nat → StM → StM) (L : SPool) : (mapP f L).map (·.1) = L.map (·.1) := by
  unfold mapP
  rw [List.map_map]
  rfl
theorem sset_fst (a : Nat) (m : StM) : ∀ L : SPool, (sset L a m).map (·.1) = L.map (·.1)
  | [] => rfl
  | p :: L => by
    show (if p.1 = a then (p.1, m) :: L else p :: sset L a m).map (·.1) = _
    split
    · rfl
    · rw [List.map_cons, sset_fst a m L]; rfl
theorem mem_sset {a : Nat} {m : StM} {p : Nat × StM} : ∀ {L : SPool}, p ∈ sset L a m → p.2 = m ∨ p ∈ L
  | [], h => by cases h
  | q :: L, h => by
    have h : p ∈ (if q.1 = a then (q.1, m) :: L else q :: sset L a m) := h
    split at h
    · rcases List.mem_cons.1 h with h | h
      · exact .inl (by rw [h])
      · exact .inr (List.mem_cons_of_mem _ h)
    · rcases List.mem_cons.1 h with h | h
      · exact .inr (h ▸ List.mem_cons_self ..)
      · rcases mem_sset h with h | h
        · exact .inl h
        · exact .inr (List.mem_cons_of_mem _ h)
theorem PoolOK.set {es : FMap} {L : SPool} {W W' : Nat} (h : PoolOK es L W) (a : Nat) {m : StM} (hm : StOK m) (hl : m.loose.length ≤ W') (hw : W ≤ W') : PoolOK es (sset L a m) W' := by
  refine ⟨fun p hp => ?_, h.nd, by rw [sset_fst]; exact h.nl, fun p hp => ?_, fun p hp => ?_⟩
  · rw [sset_fst]; exact h.ex p hp
  · rcases mem_sset hp with e | hp
    · rw [e]; exact hm
    · exact h.ok p hp
  · rcases mem_sset hp with e | hp
    · rw [e]; exact hl
    · exact Nat.le_trans (h.few p hp) hw
theorem PoolOK.map {es : FMap} {L : SPool} {W : Nat} (h : PoolOK es L W) {f : Nat → StM → StM} (h1 : ∀ a m, StOK m → StOK (f a m)) (h2 : ∀ a m, m.loose.length ≤ W → (f a m).loose.length ≤ W) : PoolOK es (mapP f L) W := by
  refine ⟨fun p hp => ?_, h.nd, by rw [mapP_fst]; exact h.nl, fun p hp => ?_, fun p hp => ?_⟩
  · rw [mapP_fst]; exact h.ex p hp
  · obtain ⟨q, hq, rfl⟩ := List.mem_map.1 hp
    exact h1 _ _ (h.ok q hq)
  · obtain ⟨q, hq, rfl⟩ := List.mem_map.1 hp
    exact h2 _ _ (h.few q hq)
theorem PoolOK.mono {es : FMap} {L : SPool} {W W' : Nat} (h : PoolOK es L W) (hw : W ≤ W') : PoolOK es L W' := ⟨h.ex, h.nd, h.nl, h.ok, fun p hp => Nat.le_trans (h.few p hp) hw⟩
theorem crE_ok (ks : List Kp) (es : FMap) (a : Nat) (m : StM) (h : StOK m) : StOK (crE ks es a m) := by
  unfold crE
  split
  · exact h.crash _
  · exact h
theorem crE_few (ks : List Kp) (es : FMap) (W a : Nat) (m : StM) (h : m.loose.length ≤ W) : (crE ks es a m).loose.length ≤ W := by
  unfold crE
  split
  · exact Nat.zero_le _
  · exact h
theorem op_few (m : StM) (o : Op3) (W : Nat) (h : m.loose.length ≤ W) : (m.op o).1.loose.length ≤ W + (oB o).length := by
  have hw : (m.write (oAt o) (oB o)).1.loose.length ≤ W + (oB o).length := by
    unfold StM.write
    split
    · show m.loose.length ≤ _; omega
    · split
      · show m.loose.length ≤ _; omega
      · split
        · show m.loose.length ≤ _; omega
        · show (wrL _ _ _ _).length ≤ _
          rw [wrL_length]
          omega
  unfold StM.op
  split
  · exact hw
  split
  · split
    · show m.loose.length ≤ _; omega
    · split <;> (show m.loose.length ≤ _; omega)
  split
  · exact Nat.zero_le _
  split
  · exact Nat.zero_le _
  split
  · split
    · exact Nat.zero_le _
    · show m.loose.length ≤ _; omega
  split
  · show m.loose.length ≤ _; omega
  · show m.loose.length ≤ _; omega
end Go.Proofs.Ythghcdddambaeaa
