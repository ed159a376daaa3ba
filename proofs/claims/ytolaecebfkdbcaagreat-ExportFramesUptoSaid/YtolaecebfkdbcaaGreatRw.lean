/-
  Chains: Cluster, whatever is asked; how far one is away.
-/
import Derived.Test.YtolaecebfkdbcaaGreatDp
set_option linter.unusedVariables false
set_option linter.unusedSimpArgs false
set_option maxRecDepth 10000
namespace Go.Proofs.YtolaecebfkdbcaaGreat
open Go.RowKit Go.Proofs
/-! Chains: Cluster and Row, whatever is asked; an image's Size, Bits, Kind in the chain. -/
section
variable {bits room : Nat} {L : List Dsk}
def clC (bits : Nat) (L : List Dsk) (nm : List UInt8) (k : Int) : List UInt8 := match dk L nm with
  | none => []
  | some d => if 0 ≤ k ∧ k < (d.im.t.length : Nat) then cseen bits L nm (dpt L nm) k.toNat else []
theorem chcluster_fn (h : CS bits room L) (nm : List UInt8) (k : Int) : Fn Tryz.prog 56 [vP 1001, vS nm, vI k] (chB bits room L) [] (vL .u8 (clC bits L nm k)) (chB bits room L) := by
  unfold clC
  cases h0 : dk L nm with
  | none =>
    have hx : (mget (ku := .str) (vu := .adr) (chE L) nm).getD (dflt .adr) = none := by rw [cget, h0]; rfl
    simp only
    refine Fn.of tblOK [2,4] _ _ _ _ _ Tryz.func56 rfl rfl (by kernel_rfl) (by kernel_rfl) rfl (drawOK tblOK) rfl ?_
    show TrQ _ _ _ _ _ _ _
    refine TrQ.go tblOK (drawOK tblOK) [4] (by kernel_rfl) (Le.refl _ _) ?_
    refine ⟨fun b' hb => absurd (show (mget (ku := .str) (vu := .adr) (chE L) nm).getD (dflt .adr) = some b' from hb) (by rw [hx]; intro h; cases h), fun _ => ?_⟩
    exact ⟨_, _, _, Le.refl _ _, rfl, rfl, ⟨rfl, rfl, rfl, rfl, trivial⟩, rfl⟩
  | some d0 =>
    simp only
    split
    · rename_i hk
      have hd := h.dep nm
      have := cluster_in bits room L h.toChOK nm d0 h0 (dpt L nm) hd.1 (by omega) k.toNat (by omega)
      rwa [show ((k.toNat : Nat) : Int) = k by omega] at this
    · rename_i hk
      obtain ⟨ia, ia1, ia2⟩ := inf_of infAdr
      have hLd := h.toChN.D (dk_get h0).1
      have hLm := h.toChN.M (dk_get h0).1
      have hx : (mget (ku := .str) (vu := .adr) (chE L) nm).getD (dflt .adr) = some d0.ad := by rw [cget, h0]; rfl
      refine Fn.of tblOK [2,4] _ _ _ _ _ Tryz.func56 rfl rfl (by kernel_rfl) (by kernel_rfl) rfl (drawOK tblOK) rfl ?_
      show TrQ _ _ _ _ _ _ _
      refine TrQ.go tblOK (drawOK tblOK) [4] (by kernel_rfl) (Le.refl _ _) ?_
      refine ⟨fun b' hb => ?_, fun hb => absurd (show (mget (ku := .str) (vu := .adr) (chE L) nm).getD (dflt .adr) = none from hb) (by rw [hx]; intro h; cases h)⟩
      refine ⟨fun _ => ?_, fun h1 => ?_⟩
      · exact ⟨_, _, _, Le.refl _ _, rfl, rfl, ⟨rfl, rfl, rfl, rfl, trivial⟩, rfl⟩
      have h1 : ¬ k < 0 := of_decide_eq_false h1
      refine ⟨_, _, fun N => opOK_nilAdr (b := d0.ad) rfl (by exact adrV_eq hx) N, rfl, ?_⟩
      refine ⟨_, _, fun N => opOK_fieldAdr rfl Tryz.underlying124 rfl rfl ia1 (by rw [ia2]; decide) rfl N, rfl, ?_⟩
      refine ⟨_, _, fun N => opOK_loadRaw (q := 1003) rfl Tryz.underlying63 rfl rfl rfl hLd rfl N, rfl, ?_⟩
      refine ⟨_, _, _, _, imFn (isize_fn d0.im) hLm rfl rfl rfl rfl, ⟨rfl, trivial⟩, rfl, ?_⟩
      refine ⟨fun _ => ?_, fun h2 => ?_⟩
      · exact ⟨_, _, _, Le.refl _ _, rfl, rfl, ⟨rfl, rfl, rfl, rfl, trivial⟩, rfl⟩
      · exfalso
        have h2 : ¬ ((d0.im.t.length : Nat) : Int) ≤ k := of_decide_eq_false h2
        omega
/-- How many images one is away that is seen; 0: there is none. -/
def awy (bits : Nat) (L : List Dsk) (nm : List UInt8) (c : Nat) : Nat := (seenL bits L c (nm :: bl L (dpt L nm) nm) 0).2
def awyL (bits : Nat) (L : List Dsk) (nm : List UInt8) (n : Nat) : List Int := (List.range n).map fun c => ((awy bits L nm c : Nat) : Int)
theorem awyL_succ (bits : Nat) (L : List Dsk) (nm : List UInt8) (j : Nat) : awyL bits L nm (j + 1) = awyL bits L nm j ++ [((awy bits L nm j : Nat) : Int)] := by
  unfold awyL
  rw [List.range_succ, List.map_append]
  rfl
theorem awyL_len (bits : Nat) (L : List Dsk) (nm : List UInt8) (j : Nat) : (awyL bits L nm j).length = j := by
  unfold awyL
  rw [List.length_map, List.length_range]
end
end Go.Proofs.YtolaecebfkdbcaaGreat
