/-
  The keys of a map of texts, sorted: maps.Keys, slices.Sorted.
-/
import Derived.Test.YtmdhangeglaigaaTbl
import Derived.Test.YtmdhangeglaigaaLays
import Derived.Test.YtmdhangeglaigaaGrp
import Derived.Test.YtmdhangeglaigaaCl
import Derived.Test.YtmdhangeglaigaaVk
set_option linter.unusedVariables false
set_option linter.unusedSimpArgs false
set_option maxRecDepth 10000
namespace Go.Proofs.Ytmdhangeglaigaa
open Go.RowKit Go.Proofs Go.Maps Go.Shelf Go.MapKept
open Go.WideElems (Fit rd rg pl rd_val rd_key rg_of)

/-- The keys of a map; sorted. -/
def keyL {vu : U} (p : El .str × El vu) : List UInt8 := p.1
def mkeys {vu : U} (es : List (El .str × El vu)) : List (List UInt8) := es.map keyL
abbrev Rany : Value → Option (DataW Unit × List MemPlace) := fun _ => some (.nil, [])
/-! Chains: Names, Users. -/
theorem mkeys_chE (L : List Dsk) : mkeys (chE L) = L.map (·.nm) := by
  unfold mkeys chE
  rw [List.map_map]
  rfl
def isUsr (L : List Dsk) (nm n : List UInt8) : Bool := !decide (nm = []) && decide (((dk L n).map (·.back)).getD [] = nm)
@[reducible] def usK (nm : List UInt8) (l : List (List UInt8)) (j : Nat) : KL := [(0, vP 1001), (1, vS nm), (5, vOwn 5002), (9, vL .str l), (10, vI (l.length : Nat)), (11, vI (j : Nat))]
@[reducible] def usK2 (nm : List UInt8) (l : List (List UInt8)) (j : Nat) : KL := [(0, vP 1001), (1, vS nm), (5, vOwn 33), (9, vL .str l), (10, vI (l.length : Nat)), (11, vI (j : Nat))]
@[reducible] def usB (bits room : Int) (L : List Dsk) (x : List (List UInt8)) : BL := chB bits room L ++ [(5002, .row 9 .str x)]
@[reducible] def usB2 (bits room : Int) (L : List Dsk) (x : List (List UInt8)) : BL := chB bits room L ++ [(33, .row 9 .str x)]
/-! Chains: Remove. -/
def ldel : List Dsk → List UInt8 → List Dsk
  | [], _ => []
  | d :: L, nm => if d.nm = nm then L else d :: ldel L nm
theorem dk_cons (d : Dsk) (L : List Dsk) (nm : List UInt8) : dk (d :: L) nm = if d.nm = nm then some d else dk L nm := by
  unfold dk
  rw [List.find?_cons]
  by_cases e : d.nm = nm
  · rw [decide_eq_true e, if_pos e]
  · rw [decide_eq_false e, if_neg e]
theorem ldel_mem {L : List Dsk} {nm : List UInt8} {d : Dsk} (h : d ∈ ldel L nm) : d ∈ L := by
  induction L with
  | nil => exact h
  | cons e L ih =>
    unfold ldel at h
    split at h
    · exact List.mem_cons_of_mem _ h
    · rcases List.mem_cons.1 h with rfl | h
      · exact List.mem_cons_self ..
      · exact List.mem_cons_of_mem _ (ih h)
theorem ldel_sub (L : List Dsk) (nm : List UInt8) : (ldel L nm).Sublist L := by
  induction L with
  | nil => exact .slnil
  | cons e L ih =>
    unfold ldel
    split
    · exact List.sublist_cons_self ..
    · exact ih.cons_cons _
theorem ldel_E (nm : List UInt8) : ∀ L : List Dsk, mdel (ku := .str) (vu := .adr) (chE L) nm = chE (ldel L nm)
  | [] => rfl
  | d :: L => by
    have ih := ldel_E nm L
    show mdel (ku := .str) (vu := .adr) (mkE d :: chE L) nm = _
    rw [show mdel (ku := .str) (vu := .adr) (mkE d :: chE L) nm = match eqKey .str (nm : El .str) (mkE d).1 with | true => chE L | false => mkE d :: mdel (ku := .str) (vu := .adr) (chE L) nm from rfl]
    unfold ldel
    by_cases e : d.nm = nm
    · rw [show eqKey .str (nm : El .str) (mkE d).1 = true from (eqKey_str _ _).2 e.symm, if_pos e]
    · rw [show eqKey .str (nm : El .str) (mkE d).1 = false from eqKey_ne (ku := .str) eqKey_str (fun h => e h.symm), if_neg e]
      simp only
      rw [ih]
      rfl
theorem pdel_map {f : Dsk → Nat × Ob} : ∀ {L : List Dsk}, (L.map fun d => (f d).1).Nodup → ∀ {nm : List UInt8} {d0 : Dsk}, dk L nm = some d0 → pdel (L.map f) (f d0).1 = (ldel L nm).map f
  | [], _, nm, d0, h => by cases h
  | d :: L, hn, nm, d0, h => by
    rw [List.map_cons] at hn
    obtain ⟨n1, n2⟩ := List.nodup_cons.1 hn
    rw [dk_cons] at h
    rw [List.map_cons]
    unfold pdel ldel
    by_cases e : d.nm = nm
    · rw [if_pos e] at h
      injection h with h
      subst h
      rw [if_pos rfl, if_pos e]
    · rw [if_neg e] at h
      have hne : ¬ (f d).1 = (f d0).1 := fun e2 => n1 (by rw [e2]; exact List.mem_map_of_mem (f := fun d => (f d).1) (dk_get h).1)
      rw [if_neg hne, if_neg e, List.map_cons, pdel_map n2 h]
theorem ChN.del {L : List Dsk} (h : ChN L) (nm : List UInt8) : ChN (ldel L nm) :=
  ⟨h.nms.sublist ((ldel_sub L nm).map _), h.ads.sublist ((ldel_sub L nm).map _), h.ams.sublist ((ldel_sub L nm).map _)⟩
end Go.Proofs.Ytmdhangeglaigaa
