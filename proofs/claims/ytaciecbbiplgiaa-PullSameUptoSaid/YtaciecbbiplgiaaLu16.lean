/-
  Pulls: alive of law 16.
-/
import Derived.Test.YtaciecbbiplgiaaPj
import Derived.Test.YtaciecbbiplgiaaLv16
set_option linter.unusedVariables false
set_option linter.unusedSimpArgs false
set_option maxRecDepth 10000
namespace Go.Proofs.Ytaciecbbiplgiaa
open Go.RowKit Go.Proofs
theorem pstep_some {bits room : Nat} {L : List Dsk} {top base : List UInt8} {d : Dsk} (hd : dk L top = some d) {k : Nat} (hn : pnx L top base = some k) : pstep bits L top base false = ⟨false, (wrC bits L top ((k * 2 ^ bits : Nat) : Int) (clC bits L top (k : Int))).e, (wrC bits L top ((k * 2 ^ bits : Nat) : Int) (clC bits L top (k : Int))).L, false⟩ := by
  unfold pstep
  rw [hd, hn]
  rfl
theorem pstep_none {bits room : Nat} {L : List Dsk} {top base : List UInt8} {d : Dsk} (hd : dk L top = some d) (hn : pnx L top base = none) : pstep bits L top base false = ⟨decide ((rbC L top base).e = 0), (rbC L top base).e, (rbC L top base).L, decide ((rbC L top base).e = 0)⟩ := by
  unfold pstep
  rw [hd, hn]
  rfl
theorem pstep_end {bits room : Nat} {L : List Dsk} {top base : List UInt8} (h : CS bits room L) {d : Dsk} (hd : dk L top = some d) (hi : btI L top base = true) (hn : pnx L top base = none) : pstep bits L top base false = ⟨true, 0, lset L top base, true⟩ := by
  rw [pstep_none (room := room) hd hn, rb_ok h hd hi]
  rfl
def akX : List UInt8 := 120 :: List.replicate 15 0
def ak1 (p : Nat × Nat) : List Dsk := (adC 0 20 [] [97] 4 [] p).L
def ak2 (p q : Nat × Nat) : List Dsk := (adC 0 20 (ak1 p) [98] 4 [97] q).L
def ak3 (p q r : Nat × Nat) : List Dsk := (adC 0 20 (ak2 p q) [99] 4 [98] r).L
def ak4 (p q r : Nat × Nat) : List Dsk := (wrC 0 (ak3 p q r) [98] 1 akX).L
def ak5 (p q r : Nat × Nat) : List Dsk := (wrC 0 (ak4 p q r) [99] ((1 * 2 ^ 0 : Nat) : Int) (clC 0 (ak4 p q r) [99] ((1 : Nat) : Int))).L
def ak6 (p q r : Nat × Nat) : List Dsk := lset (ak5 p q r) [99] [97]
theorem ak_pb (p q r : Nat × Nat) : pbE (ak4 p q r) [99] [97] = 0 := by kernel_rfl
theorem ak_k4 (p q r : Nat × Nat) : (dk (ak4 p q r) [99]).isSome = true := by kernel_rfl
theorem ak_k5 (p q r : Nat × Nat) : (dk (ak5 p q r) [99]).isSome = true := by kernel_rfl
theorem ak_nx (p q r : Nat × Nat) : pnx (ak4 p q r) [99] [97] = some 1 := by kernel_rfl
theorem ak_e5 (p q r : Nat × Nat) : (wrC 0 (ak4 p q r) [99] ((1 * 2 ^ 0 : Nat) : Int) (clC 0 (ak4 p q r) [99] ((1 : Nat) : Int))).e = 0 := by kernel_rfl
theorem ak_n5 (p q r : Nat × Nat) : pnx (ak5 p q r) [99] [97] = none := by kernel_rfl
theorem ak_b5 (p q r : Nat × Nat) : btI (ak5 p q r) [99] [97] = true := by kernel_rfl
theorem ak_k6 (p q r : Nat × Nat) : (dk (ak6 p q r) [99]).isSome = true := by kernel_rfl
theorem ak_rd (p q r : Nat × Nat) : rdC 0 (ak6 p q r) [99] 1 1 = (akX, 0) := by kernel_rfl
theorem ak_bk (p q r : Nat × Nat) : bkC (ak6 p q r) [99] = ([97], 0) := by kernel_rfl
@[reducible] def akK : KL := [(1, vP 1001), (3, vL .u8 akX)]
set_option maxHeartbeats 1000000 in
theorem alive16_fn : Fn Try.prog 9 [] [] [] (vB true) [] := by
  have c0 : CS 0 20 [] := CS.nil (by decide) (by decide)
  refine Fn.of tblOK [6,7,8,9,13,19] _ _ _ _ _ Try.func9 rfl rfl (by kernel_rfl) (by kernel_rfl) rfl (drawOK tblOK) rfl ?_
  refine ⟨_, _, _, _, chnew_ok 0 20 (by decide) (by decide), trivial, rfl, ?_⟩
  refine ⟨fun h => absurd h (by decide), fun _ => ?_⟩
  refine ⟨⟨rfl, by decide, by decide⟩, rfl, ?_⟩
  refine ⟨⟨by decide, by decide⟩, ⟨⟨by decide, by decide⟩, by decide⟩, ?_⟩
  show TrQ _ _ _ _ _ _ _
  refine TrQ.le (Le.frz 28 rfl) ?_
  refine TrQ.le (Le.sub (K' := akK) (B' := chB 0 20 []) ⟨rfl, rfl, trivial⟩ ⟨rfl, rfl, rfl, rfl, trivial⟩) ?_
  refine TrQ.regionX tblOK (by kernel_rfl) ?_
  refine ⟨_, _, _, fun g => _, fun g => _, chadd_fn c0 [97] 4 [] (by decide), ⟨rfl, rfl, rfl, rfl, trivial⟩, rfl, fun _ => rfl, fun p => ?_⟩
  obtain ⟨p, c1⟩ := p
  have c1 : CS 0 20 (ak1 p) := c1
  show TrQ _ _ _ _ _ _ _
  refine TrQ.le (Le.sub (K' := akK) (B' := chB 0 20 (ak1 p)) ⟨rfl, rfl, trivial⟩ ⟨rfl, rfl, rfl, rfl, trivial⟩) ?_
  refine TrQ.regionX tblOK (by kernel_rfl) ?_
  refine ⟨_, _, _, fun g => _, fun g => _, chadd_fn c1 [98] 4 [97] (by decide), ⟨rfl, rfl, rfl, rfl, trivial⟩, rfl, fun _ => rfl, fun q => ?_⟩
  obtain ⟨q, c2⟩ := q
  have c2 : CS 0 20 (ak2 p q) := c2
  show TrQ _ _ _ _ _ _ _
  refine TrQ.le (Le.sub (K' := akK) (B' := chB 0 20 (ak2 p q)) ⟨rfl, rfl, trivial⟩ ⟨rfl, rfl, rfl, rfl, trivial⟩) ?_
  refine TrQ.regionX tblOK (by kernel_rfl) ?_
  refine ⟨_, _, _, fun g => _, fun g => _, chadd_fn c2 [99] 4 [98] (by decide), ⟨rfl, rfl, rfl, rfl, trivial⟩, rfl, fun _ => rfl, fun r => ?_⟩
  obtain ⟨r, c3⟩ := r
  have c3 : CS 0 20 (ak3 p q r) := c3
  have c4 : CS 0 20 (ak4 p q r) := wrC_cs c3 _ _ _
  have c5 : CS 0 20 (ak5 p q r) := wrC_cs c4 _ _ _
  obtain ⟨d4, hd4⟩ := Option.isSome_iff_exists.1 (ak_k4 p q r)
  obtain ⟨d5, hd5⟩ := Option.isSome_iff_exists.1 (ak_k5 p q r)
  obtain ⟨d6, hd6⟩ := Option.isSome_iff_exists.1 (ak_k6 p q r)
  have c6 : CS 0 20 (ak6 p q r) := by
    have := rbC_cs c5 [99] [97]
    rwa [rb_ok c5 hd5 (ak_b5 p q r)] at this
  have hw := chwrite_fn c3 [98] 1 akX (by decide)
  have e4 : (wrC 0 (ak3 p q r) [98] 1 akX).L = ak4 p q r := rfl
  rw [e4] at hw
  generalize (wrC 0 (ak3 p q r) [98] 1 akX).e = w4 at hw
  have hb := pbegin_ok c4 [99] [97] (ak_pb p q r)
  have hn := pnext_fn c4 [97] false hd4
  rw [show pnC (ak4 p q r) [99] [97] false = (1, true) by unfold pnC; rw [ak_nx]; rfl] at hn
  have hs1 := pstep_fn c4 [97] false hd4
  have e5 : pstep 0 (ak4 p q r) [99] [97] false = ⟨false, 0, ak5 p q r, false⟩ := by
    rw [pstep_some (room := 20) hd4 (ak_nx p q r), ak_e5]
    rfl
  rw [e5] at hs1
  have hs2 := pstep_fn c5 [97] false hd5
  have e6 : pstep 0 (ak5 p q r) [99] [97] false = ⟨true, 0, ak6 p q r, true⟩ := pstep_end c5 hd5 (ak_b5 p q r) (ak_n5 p q r)
  rw [e6] at hs2
  have hs3 := pstep_fn c6 [97] true hd6
  rw [show pstep 0 (ak6 p q r) [99] [97] true = ⟨false, 160, ak6 p q r, true⟩ from rfl] at hs3
  have hr := chread_fn c6 [99] 1 1
  rw [ak_rd] at hr
  have hk := chback_fn c6 [99]
  rw [ak_bk] at hk
  have ho := pover_fn ((0 : Nat) : Int) ((20 : Nat) : Int) (ak6 p q r) [99] [97] true
  show TrQ _ _ _ _ _ _ _
  refine TrQ.le (Le.sub (K' := akK) (B' := chB 0 20 (ak3 p q r)) ⟨rfl, rfl, trivial⟩ ⟨rfl, rfl, rfl, rfl, trivial⟩) ?_
  clear e4 e5 e6
  generalize ak3 p q r = L3 at *
  generalize ak4 p q r = L4 at *
  generalize ak5 p q r = L5 at *
  generalize ak6 p q r = L6 at *
  refine TrQ.go tblOK (drawOK tblOK) [13,19] (by kernel_rfl) (Le.refl _ _) ?_
  refine ⟨_, _, _, _, hw, ⟨rfl, rfl, rfl, rfl, trivial⟩, rfl, ?_⟩
  refine ⟨_, _, _, _, hb, ⟨rfl, rfl, rfl, rfl, trivial⟩, rfl, ?_⟩
  refine ⟨fun h => absurd h (by decide), fun _ => ?_⟩
  show TrQ _ _ _ _ _ _ _
  refine TrQ.go tblOK (drawOK tblOK) [19] (by kernel_rfl) (Le.sub (K' := [(1, vP 1001), (3, vL .u8 akX), (4, vP 2001)]) (B' := pjB1 0 20 L4 [99] [97] false) ⟨rfl, rfl, rfl, trivial⟩ ⟨rfl, rfl, rfl, rfl, rfl, trivial⟩) ?_
  refine ⟨_, _, _, _, hn, ⟨rfl, rfl, rfl, rfl, rfl, trivial⟩, rfl, ?_⟩
  refine ⟨_, _, _, _, hs1, ⟨rfl, rfl, rfl, rfl, rfl, trivial⟩, rfl, ?_⟩
  refine ⟨_, _, _, _, hs2, ⟨rfl, rfl, rfl, rfl, rfl, trivial⟩, rfl, ?_⟩
  refine ⟨_, _, _, _, hs3, ⟨rfl, rfl, rfl, rfl, rfl, trivial⟩, rfl, ?_⟩
  refine ⟨_, _, _, _, hr, ⟨rfl, rfl, rfl, rfl, trivial⟩, rfl, ?_⟩
  refine ⟨_, _, _, _, hk, ⟨rfl, rfl, rfl, rfl, trivial⟩, rfl, ?_⟩
  show TrQ _ _ _ _ _ _ _
  refine TrQ.go tblOK (drawOK tblOK) [] (by kernel_rfl) (Le.sub (K' := [(3, vL .u8 akX), (4, vP 2001), (6, vI 1), (7, vB true), (8, vB false), (9, vI 0), (10, vB true), (11, vI 0), (13, vI 160), (14, vL .u8 akX), (16, vS [97])]) (B' := pjB1 0 20 L6 [99] [97] true) ⟨rfl, rfl, rfl, rfl, rfl, rfl, rfl, rfl, rfl, rfl, rfl, trivial⟩ ⟨rfl, rfl, rfl, rfl, rfl, trivial⟩) ?_
  refine ⟨fun _ => ?_, fun h => absurd h (by decide)⟩
  refine ⟨fun _ => ?_, fun h => absurd h (by decide)⟩
  refine ⟨fun _ => ?_, fun h => absurd h (by decide)⟩
  refine ⟨fun _ => ?_, fun h => absurd h (by decide)⟩
  refine ⟨fun _ => ?_, fun h => absurd h (by decide)⟩
  refine ⟨fun _ => ?_, fun h => absurd h (by decide)⟩
  refine ⟨fun _ => ?_, fun h => absurd h (by decide)⟩
  refine ⟨fun _ => ?_, fun h => absurd h (by decide)⟩
  refine ⟨fun _ => ?_, fun h => absurd h (by decide)⟩
  refine ⟨_, _, _, _, ho, ⟨rfl, rfl, rfl, rfl, rfl, trivial⟩, rfl, ?_⟩
  exact ⟨_, _, _, Le.refl _ _, rfl, rfl, trivial, rfl⟩
end Go.Proofs.Ytaciecbbiplgiaa
