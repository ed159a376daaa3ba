/-
  Images: Bits.
-/
import Derived.Test.YtbcngglcaeehbaaGreatRp
set_option linter.unusedVariables false
set_option linter.unusedSimpArgs false
set_option maxRecDepth 10000
namespace Go.Proofs.YtbcngglcaeehbaaGreat
open Go.RowKit Go.Proofs
/-- Less is said of a block's cells. -/
theorem Le.cellsTo {ids : List Nat} {K : KL} {B : BL} (c : Nat) {l l' : List S1} (hc : lookB B c = some (.cells l)) (hl : leL l l') : Le ids K B K ((c, .cells l') :: B) := by
  rintro N C a w ⟨hn, hd, ρ, F, hM, hS⟩
  obtain ⟨hM', hE⟩ := hM.turn (w' := w) (ch := .cells l') hc (Fr.refl _ _) fun I hI => by
    obtain ⟨h1, vs, T, h2, h3⟩ := hM.holds c _ hc
    exact ⟨h1, vs, T, h2, leL_den hl (DenL.mono hI _ _ (fun _ _ => rfl) h3)⟩
  exact ⟨hn, hd, ρ, F, hM', hS.mono hE fun _ _ _ => rfl⟩
theorem ibits_fn (s : ImS) : Fn Tryz.prog 60 [vP 1001] (imB s) [] (vI (s.bits : Nat)) (imB s) := by
  refine Fn.of tblOK [] _ _ _ _ _ Tryz.func60 rfl rfl (by kernel_rfl) (by kernel_rfl) rfl (drawOK tblOK) rfl ?_
  exact ⟨_, _, _, Le.refl _ _, rfl, rfl, ⟨rfl, rfl, rfl, rfl, trivial⟩, rfl⟩
end Go.Proofs.YtbcngglcaeehbaaGreat
