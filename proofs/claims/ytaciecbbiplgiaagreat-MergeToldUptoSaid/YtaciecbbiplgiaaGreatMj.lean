/-
  Merges: Wrote, bring, Step.
-/
import Derived.Test.YtaciecbbiplgiaaGreatMk
set_option linter.unusedVariables false
set_option linter.unusedSimpArgs false
set_option maxRecDepth 10000
namespace Go.Proofs.YtaciecbbiplgiaaGreat
open Go.RowKit Go.Proofs
section
variable {bits room : Nat} {L : List Dsk} {top base : List UInt8}
theorem mwr_succ (bits n : Nat) (l : List Nat) (a long : Int) : mwr bits (n + 1) l a long = if a < ((n * 2 ^ bits + 2 ^ bits : Nat) : Int) ∧ ((n * 2 ^ bits : Nat) : Int) - long < a then lput (mwr bits n l a long) n else mwr bits n l a long := by
  unfold mwr
  rw [List.range_succ, List.foldl_append]
  rfl
def mwC (bits : Nat) (L : List Dsk) (top : List UInt8) (l : List Nat) (over : Bool) (a long : Int) : List Nat := if over = true ∨ long < 1 then l else mwr bits (szOf L top) l a long
@[reducible] def mwK (am : Nat) (a long : Int) (n k : Nat) : KL := [(0, vP 2001), (1, vI a), (2, vI long), (6, vAd am), (31, vI (n : Nat)), (32, vI (k : Nat))]
set_option maxHeartbeats 1000000 in
theorem mwrote_fn (h : CS bits room L) (base : List UInt8) (l : List Nat) (over : Bool) (a long : Int) (hlr : long ≤ 9223372036854775807) {d : Dsk} (hd : dk L top = some d) : Fn Tryz.prog 25 [vP 2001, vI a, vI long] (mjB bits room L top base l over) [] vU (mjB bits room L top base (mwC bits L top l over a long) over) := by
  have htl := (h.ims d (dk_get hd).1).1.tl
  have hLm := h.toChN.M (dk_get hd).1
  have hbt : d.im.bits = bits := (h.ims d (dk_get hd).1).2.1
  have hp := pow_le8 h.b3
  have hb3 := h.b3
  have hsz : szOf L top = d.im.t.length := by unfold szOf; rw [hd]
  cases over with
  | true =>
    have e : mwC bits L top l true a long = l := if_pos (.inl rfl)
    rw [e]
    refine Fn.of tblOK [] _ _ _ _ _ Tryz.func25 rfl rfl (by kernel_rfl) (by kernel_rfl) rfl (drawOK tblOK) rfl ?_
    refine ⟨_, _, _, _, image_fn _ _ L h.toChN top d hd, ⟨rfl, rfl, rfl, rfl, trivial⟩, rfl, ?_⟩
    refine ⟨rfl, ?_⟩
    refine ⟨fun _ => ?_, fun h => absurd h (by decide)⟩
    exact ⟨_, _, _, Le.refl _ _, rfl, trivial, ⟨rfl, rfl, rfl, rfl, rfl, rfl, trivial⟩, rfl⟩
  | false =>
    have e1 : long < 1 → mwC bits L top l false a long = l := fun e => if_pos (.inr e)
    have e2 : ¬ long < 1 → mwC bits L top l false a long = mwr bits d.im.t.length l a long := fun e => (if_neg (fun c => c.elim (fun c => by cases c) e)).trans (by rw [hsz])
    have hS := fun k => mwr_succ bits k l a long
    have h00 : mwr bits 0 l a long = l := rfl
    generalize mwC bits L top l false a long = rl at *
    have eP : ∀ k : Nat, (k : Int) * ((2 ^ ((d.im.bits : Nat) : Int).toNat : Nat) : Int) = ((k * 2 ^ bits : Nat) : Int) := fun k => by
      rw [hbt]
      show (k : Int) * ((2 ^ bits : Nat) : Int) = _
      rw [Int.natCast_mul]
    have eQ : (1 : Int) * ((2 ^ ((d.im.bits : Nat) : Int).toNat : Nat) : Int) = ((2 ^ bits : Nat) : Int) := by
      have := eP 1
      rw [Nat.one_mul] at this
      exact this
    refine Fn.of tblOK [2] _ _ _ _ _ Tryz.func25 rfl rfl (by kernel_rfl) (by kernel_rfl) rfl (drawOK tblOK) rfl ?_
    refine ⟨_, _, _, _, image_fn _ _ L h.toChN top d hd, ⟨rfl, rfl, rfl, rfl, trivial⟩, rfl, ?_⟩
    refine ⟨rfl, ?_⟩
    refine ⟨fun h => absurd h (by decide), fun _ => ?_⟩
    refine ⟨fun _ _ => ?_, fun h => by cases h⟩
    refine ⟨fun hl => ?_, fun hl => ?_⟩
    · have hl : long < 1 := of_decide_eq_true hl
      exact ⟨_, _, _, Le.refl _ _, rfl, trivial, ⟨rfl, rfl, rfl, rfl, rfl, congrArg (fun z => some (Ch.map uI uI (esL z))) (e1 hl).symm, trivial⟩, rfl⟩
    have hl : ¬ long < 1 := of_decide_eq_false hl
    have e2 := e2 hl
    show TrQ _ _ _ _ _ _ _
    refine TrQ.go tblOK (drawOK tblOK) [] (by kernel_rfl) (Le.sub (K' := [(0, vP 2001), (1, vI a), (2, vI long), (6, vAd d.am)]) (B' := mjB bits room L top base l false) ⟨rfl, rfl, rfl, rfl, trivial⟩ ⟨rfl, rfl, rfl, rfl, rfl, rfl, trivial⟩) ?_
    refine ⟨_, _, _, _, imFn (isize_fn d.im) hLm rfl rfl rfl rfl, ⟨rfl, trivial⟩, rfl, ?_⟩
    show TrQ _ _ _ _ _ _ _
    refine TrQ.loop tblOK (drawOK tblOK) [6,7] (by kernel_rfl) (X := Nat) (fun k => mwK d.am a long d.im.t.length k) (fun k => mjB bits room L top base (mwr bits k l a long) false) (fun k => k ≤ d.im.t.length) (fun k => d.im.t.length - k) 0 (Nat.zero_le _) ?_ ?_
    · exact Le.sub ⟨rfl, rfl, rfl, rfl, rfl, rfl, trivial⟩ ⟨rfl, rfl, rfl, rfl, rfl, rfl, trivial⟩
    intro k hk
    have hk : k ≤ d.im.t.length := hk
    refine ⟨fun hc => ?_, fun hc => ?_⟩
    · have hc : decide ((k : Int) < ((d.im.t.length : Nat) : Int)) = true := hc
      have hkl : k < d.im.t.length := by have := of_decide_eq_true hc; omega
      have ePk := eP k
      have hSk := hS k
      have mk : k * 2 ^ bits ≤ 256 * 8 := Nat.mul_le_mul (by omega) hp.2
      have m1 : (0 : Int) ≤ (k : Int) ∧ (0 : Int) ≤ ((d.im.bits : Nat) : Int) ∧ ((d.im.bits : Nat) : Int) ≤ 64 := by omega
      have m2 : (-9223372036854775808 : Int) ≤ (k : Int) * ((2 ^ ((d.im.bits : Nat) : Int).toNat : Nat) : Int) ∧ (k : Int) * ((2 ^ ((d.im.bits : Nat) : Int).toNat : Nat) : Int) ≤ 9223372036854775807 := by rw [ePk]; omega
      have n1 : (0 : Int) ≤ (1 : Int) ∧ (0 : Int) ≤ ((d.im.bits : Nat) : Int) ∧ ((d.im.bits : Nat) : Int) ≤ 64 := by omega
      have n2 : (-9223372036854775808 : Int) ≤ (1 : Int) * ((2 ^ ((d.im.bits : Nat) : Int).toNat : Nat) : Int) ∧ (1 : Int) * ((2 ^ ((d.im.bits : Nat) : Int).toNat : Nat) : Int) ≤ 9223372036854775807 := by rw [eQ]; omega
      have n3 : (-9223372036854775808 : Int) ≤ ((k * 2 ^ bits : Nat) : Int) + (1 : Int) * ((2 ^ ((d.im.bits : Nat) : Int).toNat : Nat) : Int) ∧ ((k * 2 ^ bits : Nat) : Int) + (1 : Int) * ((2 ^ ((d.im.bits : Nat) : Int).toNat : Nat) : Int) ≤ 9223372036854775807 := by rw [eQ]; omega
      have n4 : (-9223372036854775808 : Int) ≤ ((k * 2 ^ bits : Nat) : Int) - long ∧ ((k * 2 ^ bits : Nat) : Int) - long ≤ 9223372036854775807 := by omega
      have eS : ((k * 2 ^ bits : Nat) : Int) + (1 : Int) * ((2 ^ ((d.im.bits : Nat) : Int).toNat : Nat) : Int) = ((k * 2 ^ bits + 2 ^ bits : Nat) : Int) := by rw [eQ]; omega
      refine ⟨_, _, _, _, imFn (ibits_fn d.im) hLm rfl rfl rfl rfl, ⟨rfl, trivial⟩, rfl, ?_⟩
      refine ⟨m1, m2, ?_⟩
      show TrQ _ _ _ _ _ _ _
      refine TrQ.go tblOK (drawOK tblOK) [7] (by kernel_rfl) (Le.sub (K' := [(0, vP 2001), (1, vI a), (2, vI long), (6, vAd d.am), (31, vI (d.im.t.length : Nat)), (32, vI (k : Nat)), (7, vI (k : Nat)), (8, vI ((k * 2 ^ bits : Nat) : Int))]) (B' := mjB bits room L top base (mwr bits k l a long) false) ⟨rfl, rfl, rfl, rfl, rfl, rfl, rfl, ePk, trivial⟩ ⟨rfl, rfl, rfl, rfl, rfl, rfl, trivial⟩) ?_
      refine ⟨_, _, _, _, imFn (ibits_fn d.im) hLm rfl rfl rfl rfl, ⟨rfl, trivial⟩, rfl, ?_⟩
      refine ⟨n1, n2, n3, ?_⟩
      have stepN : (¬ (a < ((k * 2 ^ bits + 2 ^ bits : Nat) : Int) ∧ ((k * 2 ^ bits : Nat) : Int) - long < a)) → mwr bits k l a long = mwr bits (k + 1) l a long := fun e => by rw [hSk, if_neg e]
      refine ⟨fun c1 => ?_, fun c1 => ?_⟩
      · have c1 : decide (a < ((k * 2 ^ bits : Nat) : Int) + (1 : Int) * ((2 ^ ((d.im.bits : Nat) : Int).toNat : Nat) : Int)) = true := c1
        have c1 := of_decide_eq_true c1
        rw [eS] at c1
        refine ⟨n4, ?_⟩
        refine ⟨fun c2 => ?_, fun c2 => ?_⟩
        · have c2 : decide (((k * 2 ^ bits : Nat) : Int) - long < a) = true := c2
          have c2 := of_decide_eq_true c2
          have hq : lput (mwr bits k l a long) k = mwr bits (k + 1) l a long := by rw [hSk, if_pos ⟨c1, c2⟩]
          show TrQ _ _ _ _ _ _ _
          refine TrQ.go tblOK (drawOK tblOK) [] (by kernel_rfl) (Le.sub (K' := [(0, vP 2001), (1, vI a), (2, vI long), (6, vAd d.am), (31, vI (d.im.t.length : Nat)), (32, vI (k : Nat)), (7, vI (k : Nat))]) (B' := mjB bits room L top base (mwr bits k l a long) false) ⟨rfl, rfl, rfl, rfl, rfl, rfl, rfl, trivial⟩ ⟨rfl, rfl, rfl, rfl, rfl, rfl, trivial⟩) ?_
          refine ⟨trivial, ?_⟩
          exact ⟨by omega, k + 1, hkl, by omega, Le.sub ⟨rfl, rfl, rfl, rfl, rfl, rfl, trivial⟩ ⟨rfl, rfl, rfl, rfl, rfl, congrArg (fun z => some (Ch.map uI uI z)) ((mput_esL k _).trans (congrArg esL hq)), trivial⟩⟩
        · have c2 : decide (((k * 2 ^ bits : Nat) : Int) - long < a) = false := c2
          have c2 := of_decide_eq_false c2
          exact ⟨by omega, k + 1, hkl, by omega, Le.sub ⟨rfl, rfl, rfl, rfl, rfl, rfl, trivial⟩ ⟨rfl, rfl, rfl, rfl, rfl, congrArg (fun z => some (Ch.map uI uI (esL z))) (stepN fun e => c2 e.2), trivial⟩⟩
      · have c1 : decide (a < ((k * 2 ^ bits : Nat) : Int) + (1 : Int) * ((2 ^ ((d.im.bits : Nat) : Int).toNat : Nat) : Int)) = false := c1
        have c1 := of_decide_eq_false c1
        rw [eS] at c1
        exact ⟨by omega, k + 1, hkl, by omega, Le.sub ⟨rfl, rfl, rfl, rfl, rfl, rfl, trivial⟩ ⟨rfl, rfl, rfl, rfl, rfl, congrArg (fun z => some (Ch.map uI uI (esL z))) (stepN fun e => c1 e.1), trivial⟩⟩
    · have hc : decide ((k : Int) < ((d.im.t.length : Nat) : Int)) = false := hc
      have hkl : k = d.im.t.length := by have := of_decide_eq_false hc; omega
      subst hkl
      exact ⟨_, _, _, Le.refl _ _, rfl, trivial, ⟨rfl, rfl, rfl, rfl, rfl, congrArg (fun z => some (Ch.map uI uI (esL z))) e2.symm, trivial⟩, rfl⟩
/-! ### bring -/
@[reducible] def brB (bits room : Int) (L : List Dsk) (top base : List UInt8) (l : List Nat) (x y : Int) : BL := mjB bits room L top base l false ++ [(3001, .cells [.ptr 2001 0]), (3002, .cells [.d (.int .i64 x)]), (3003, .cells [.d (.int .i64 y)])]
theorem bring1_fn (h : CS bits room L) (base : List UInt8) (l : List Nat) (a : Int) (k : Nat) {d : Dsk} (hd : dk L top = some d) (hk : k < d.im.t.length) : Fn Tryz.prog 84 [vP 3001, vP 3002, vP 3003] (brB bits room L top base l a (k : Int)) [] (vI (wrC bits L base a (clC bits L top (k : Int))).e) (brB bits room (wrC bits L base a (clC bits L top (k : Int))).L top base l a (k : Int)) := by
  have hcl := chcluster_fn h top (k : Int)
  have hp := pow_le8 h.b3
  have hlen : (clC bits L top (k : Int)).length ≤ 1000000000 := by
    have : clC bits L top (k : Int) = cseen bits L top (dpt L top) k := by
      unfold clC
      rw [hd]
      simp only
      rw [if_pos ⟨by omega, by omega⟩]
      rfl
    rw [this, cseen_len h.toChOK hd (h.dep top).1 k]
    omega
  have hwr := chwrite_fn h base a (clC bits L top (k : Int)) hlen
  generalize clC bits L top (k : Int) = x at *
  generalize wrC bits L base a x = r at *
  refine Fn.of tblOK [] _ _ _ _ _ Tryz.func84 rfl rfl (by kernel_rfl) (by kernel_rfl) rfl (drawOK tblOK) rfl ?_
  refine ⟨_, _, _, _, hcl, ⟨rfl, rfl, rfl, rfl, trivial⟩, rfl, ?_⟩
  refine ⟨_, _, _, _, hwr, ⟨rfl, rfl, rfl, rfl, trivial⟩, rfl, ?_⟩
  refine ⟨rfl, ?_⟩
  exact ⟨_, _, _, Le.refl _ _, rfl, rfl, ⟨rfl, rfl, rfl, rfl, rfl, rfl, rfl, rfl, rfl, trivial⟩, rfl⟩
theorem bring2_fn (h : CS bits room L) (top base : List UInt8) (l : List Nat) (a long : Int) : Fn Tryz.prog 85 [vP 3001, vP 3002, vP 3003] (brB bits room L top base l a long) [] (vI (zrC bits L base a long).e) (brB bits room (zrC bits L base a long).L top base l a long) := by
  have hzr := chzero_fn h base a long
  generalize zrC bits L base a long = r at *
  refine Fn.of tblOK [] _ _ _ _ _ Tryz.func85 rfl rfl (by kernel_rfl) (by kernel_rfl) rfl (drawOK tblOK) rfl ?_
  refine ⟨_, _, _, _, hzr, ⟨rfl, rfl, rfl, rfl, trivial⟩, rfl, ?_⟩
  refine ⟨rfl, ?_⟩
  exact ⟨_, _, _, Le.refl _ _, rfl, rfl, ⟨rfl, rfl, rfl, rfl, rfl, rfl, rfl, rfl, rfl, trivial⟩, rfl⟩
@[reducible] def bnB (bits room : Int) (L : List Dsk) (top base : List UInt8) (l : List Nat) (k a long : Int) (b4 b5 b6 b7 : Nat) (es : List (El uI × El .fn)) : BL := mjB bits room L top base l false ++ [(4, .cells [.ptr 2001 0]), (5, .cells [.d (.int .i64 k)]), (6, .cells [.d (.int .i64 a)]), (7, .cells [.d (.int .i64 long)]), (9004, .dep 4 (isAt b4)), (9005, .dep 5 (isAt b5)), (9006, .dep 6 (isAt b6)), (9007, .dep 7 (isAt b7)), (12, .obj (wayO es))]
def wys (b4 b5 b6 b7 : Nat) : List (El uI × El .fn) := mput (ku := uI) (vu := .fn) (mput (ku := uI) (vu := .fn) [] (1 : Int) (84, [b4, b6, b5])) (2 : Int) (85, [b4, b6, b7])
theorem wys_1 (b4 b5 b6 b7 : Nat) : mget (ku := uI) (vu := .fn) (wys b4 b5 b6 b7) (1 : Int) = some (84, [b4, b6, b5]) := rfl
theorem wys_2 (b4 b5 b6 b7 : Nat) : mget (ku := uI) (vu := .fn) (wys b4 b5 b6 b7) (2 : Int) = some (85, [b4, b6, b7]) := rfl
theorem wys_no (b4 b5 b6 b7 : Nat) {x : Int} (h1 : x ≠ 1) (h2 : x ≠ 2) : mget (ku := uI) (vu := .fn) (wys b4 b5 b6 b7) x = none := by
  have e1 : eqKey uI x (1 : Int) = false := decide_eq_false h1
  have e2 : eqKey uI x (2 : Int) = false := decide_eq_false h2
  have e : wys b4 b5 b6 b7 = [(@Prod.mk (El uI) (El .fn) (1 : Int) (84, [b4, b6, b5])), (@Prod.mk (El uI) (El .fn) (2 : Int) (85, [b4, b6, b7]))] := rfl
  rw [e]
  simp only [mget, e1, e2]
set_option maxHeartbeats 1000000 in
theorem bring_fn (h : CS bits room L) (base : List UInt8) (l : List Nat) (k : Nat) (a long : Int) (ha : a = ((k * 2 ^ bits : Nat) : Int)) (hg : long = ((2 ^ bits : Nat) : Int)) {d : Dsk} (hd : dk L top = some d) (hk : k < d.im.t.length) : Fn Tryz.prog 54 [vP 2001, vI (k : Int), vI a, vI long] (mjB bits room L top base l false) [] (vI (brC bits L top base k).e) (mjB bits room (brC bits L top base k).L top base l false) := by
  have htl := (h.ims d (dk_get hd).1).1.tl
  have hLm := h.toChN.M (dk_get hd).1
  have hkd : kdOf L top k = (d.im.t.getD k s0).1 := by unfold kdOf; rw [hd]
  have hik := ikindD_fn d.im htl k hk
  rw [← hkd] at hik
  have hb1 := bring1_fn h base l a k hd hk
  have hb2 := bring2_fn h top base l a long
  by_cases c1 : kdOf L top k = 1
  · have e : brC bits L top base k = wrC bits L base a (clC bits L top (k : Int)) := by rw [ha]; exact if_pos c1
    rw [e]
    rw [c1] at hik
    generalize wrC bits L base a (clC bits L top (k : Int)) = r at *
    refine Fn.of tblOK [1,2,3,5] _ _ _ _ _ Tryz.func54 rfl rfl (by kernel_rfl) (by kernel_rfl) rfl (drawOK tblOK) rfl ?_
    refine ⟨rfl, rfl, rfl, rfl, ?_⟩
    show TrQ _ _ _ _ _ _ _
    refine TrQ.leX (LeX.mark 4 9004 rfl (by decide)) fun b4 => ?_
    refine TrQ.leX (LeX.mark 5 9005 rfl (by decide)) fun b5 => ?_
    refine TrQ.leX (LeX.mark 6 9006 rfl (by decide)) fun b6 => ?_
    refine TrQ.leX (LeX.mark 7 9007 rfl (by decide)) fun b7 => ?_
    refine TrQ.go tblOK (drawOK tblOK) [2,3,5] (by kernel_rfl) (Le.refl _ _) ?_
    refine ⟨rfl, ?_⟩
    refine ⟨_, _, fun N => opOK_insFn (m1 := 9004) (m2 := 9006) (m3 := 9005) (b1 := b4) (b2 := b6) (b3 := b5) (ch' := .map uI .fn (mput (ku := uI) (vu := .fn) [] (1 : Int) (84, [b4, b6, b5]))) rfl Tryz.underlying146 Tryz.underlying3 rfl rfl rfl rfl rfl rfl rfl (.inl rfl) (.inl rfl) N, rfl, ?_⟩
    refine ⟨_, _, fun N => opOK_insFn (m1 := 9004) (m2 := 9006) (m3 := 9007) (b1 := b4) (b2 := b6) (b3 := b7) (ch' := .obj (wayO (wys b4 b5 b6 b7))) rfl Tryz.underlying146 Tryz.underlying3 rfl rfl rfl rfl rfl rfl rfl (.inl rfl) (.inr rfl) N, rfl, ?_⟩
    show TrQ _ _ _ _ _ _ _
    refine TrQ.go tblOK (drawOK tblOK) [3,5] (by kernel_rfl) (Le.sub (K' := [(4, vP 4), (5, vP 5), (6, vP 6), (7, vP 7), (9, .c (.one (.mp 12)))]) (B' := bnB bits room L top base l k a long b4 b5 b6 b7 (wys b4 b5 b6 b7)) ⟨rfl, rfl, rfl, rfl, rfl, trivial⟩ ⟨rfl, rfl, rfl, rfl, rfl, rfl, rfl, rfl, rfl, rfl, rfl, rfl, rfl, rfl, rfl, trivial⟩) ?_
    refine ⟨_, _, _, _, image_fn _ _ L h.toChN top d hd, ⟨rfl, rfl, rfl, rfl, trivial⟩, rfl, ?_⟩
    refine ⟨_, _, _, _, imFn hik hLm rfl rfl rfl rfl, ⟨rfl, trivial⟩, rfl, ?_⟩
    refine ⟨_, _, fun N => opOK_getFn tblOK (ti := _) rfl Tryz.underlying146 Tryz.underlying3 rfl rfl rfl rfl (wys_1 b4 b5 b6 b7) N, rfl, ?_⟩
    refine ⟨rfl, ?_⟩
    show TrQ _ _ _ _ _ _ _
    refine TrQ.go tblOK (drawOK tblOK) [5] (by kernel_rfl) (Le.sub (K' := [(10, .c (.one (.d (.fn (84, [b4, b6, b5]))))), (11, vLit true)]) (B' := bnB bits room L top base l k a long b4 b5 b6 b7 (wys b4 b5 b6 b7)) ⟨rfl, rfl, trivial⟩ ⟨rfl, rfl, rfl, rfl, rfl, rfl, rfl, rfl, rfl, rfl, rfl, rfl, rfl, rfl, rfl, trivial⟩) ?_
    show TrQ _ _ _ _ _ _ _
    refine TrQ.le (Le.ofFn3 10 84 4 6 5 9004 9006 9005 b4 b6 b5 rfl rfl rfl rfl) ?_
    refine TrQ.go tblOK (drawOK tblOK) [] (by kernel_rfl) (Le.refl _ _) ?_
    refine ⟨_, _, _, _, Fn.ren [(3001, 4), (3002, 6), (3003, 5)] hb1, ⟨rfl, rfl, rfl, rfl, rfl, rfl, rfl, rfl, rfl, trivial⟩, rfl, ?_⟩
    exact ⟨_, _, _, Le.refl _ _, rfl, rfl, ⟨rfl, rfl, rfl, rfl, rfl, rfl, trivial⟩, rfl⟩
  by_cases c2 : kdOf L top k = 2
  · have e : brC bits L top base k = zrC bits L base a long := by rw [ha, hg]; exact (if_neg c1).trans (if_pos c2)
    rw [e]
    rw [c2] at hik
    generalize zrC bits L base a long = r at *
    refine Fn.of tblOK [1,2,3,5] _ _ _ _ _ Tryz.func54 rfl rfl (by kernel_rfl) (by kernel_rfl) rfl (drawOK tblOK) rfl ?_
    refine ⟨rfl, rfl, rfl, rfl, ?_⟩
    show TrQ _ _ _ _ _ _ _
    refine TrQ.leX (LeX.mark 4 9004 rfl (by decide)) fun b4 => ?_
    refine TrQ.leX (LeX.mark 5 9005 rfl (by decide)) fun b5 => ?_
    refine TrQ.leX (LeX.mark 6 9006 rfl (by decide)) fun b6 => ?_
    refine TrQ.leX (LeX.mark 7 9007 rfl (by decide)) fun b7 => ?_
    refine TrQ.go tblOK (drawOK tblOK) [2,3,5] (by kernel_rfl) (Le.refl _ _) ?_
    refine ⟨rfl, ?_⟩
    refine ⟨_, _, fun N => opOK_insFn (m1 := 9004) (m2 := 9006) (m3 := 9005) (b1 := b4) (b2 := b6) (b3 := b5) (ch' := .map uI .fn (mput (ku := uI) (vu := .fn) [] (1 : Int) (84, [b4, b6, b5]))) rfl Tryz.underlying146 Tryz.underlying3 rfl rfl rfl rfl rfl rfl rfl (.inl rfl) (.inl rfl) N, rfl, ?_⟩
    refine ⟨_, _, fun N => opOK_insFn (m1 := 9004) (m2 := 9006) (m3 := 9007) (b1 := b4) (b2 := b6) (b3 := b7) (ch' := .obj (wayO (wys b4 b5 b6 b7))) rfl Tryz.underlying146 Tryz.underlying3 rfl rfl rfl rfl rfl rfl rfl (.inl rfl) (.inr rfl) N, rfl, ?_⟩
    show TrQ _ _ _ _ _ _ _
    refine TrQ.go tblOK (drawOK tblOK) [3,5] (by kernel_rfl) (Le.sub (K' := [(4, vP 4), (5, vP 5), (6, vP 6), (7, vP 7), (9, .c (.one (.mp 12)))]) (B' := bnB bits room L top base l k a long b4 b5 b6 b7 (wys b4 b5 b6 b7)) ⟨rfl, rfl, rfl, rfl, rfl, trivial⟩ ⟨rfl, rfl, rfl, rfl, rfl, rfl, rfl, rfl, rfl, rfl, rfl, rfl, rfl, rfl, rfl, trivial⟩) ?_
    refine ⟨_, _, _, _, image_fn _ _ L h.toChN top d hd, ⟨rfl, rfl, rfl, rfl, trivial⟩, rfl, ?_⟩
    refine ⟨_, _, _, _, imFn hik hLm rfl rfl rfl rfl, ⟨rfl, trivial⟩, rfl, ?_⟩
    refine ⟨_, _, fun N => opOK_getFn tblOK (ti := _) rfl Tryz.underlying146 Tryz.underlying3 rfl rfl rfl rfl (wys_2 b4 b5 b6 b7) N, rfl, ?_⟩
    refine ⟨rfl, ?_⟩
    show TrQ _ _ _ _ _ _ _
    refine TrQ.go tblOK (drawOK tblOK) [5] (by kernel_rfl) (Le.sub (K' := [(10, .c (.one (.d (.fn (85, [b4, b6, b7]))))), (11, vLit true)]) (B' := bnB bits room L top base l k a long b4 b5 b6 b7 (wys b4 b5 b6 b7)) ⟨rfl, rfl, trivial⟩ ⟨rfl, rfl, rfl, rfl, rfl, rfl, rfl, rfl, rfl, rfl, rfl, rfl, rfl, rfl, rfl, trivial⟩) ?_
    show TrQ _ _ _ _ _ _ _
    refine TrQ.le (Le.ofFn3 10 85 4 6 7 9004 9006 9007 b4 b6 b7 rfl rfl rfl rfl) ?_
    refine TrQ.go tblOK (drawOK tblOK) [] (by kernel_rfl) (Le.refl _ _) ?_
    refine ⟨_, _, _, _, Fn.ren [(3001, 4), (3002, 6), (3003, 7)] hb2, ⟨rfl, rfl, rfl, rfl, rfl, rfl, rfl, rfl, rfl, trivial⟩, rfl, ?_⟩
    exact ⟨_, _, _, Le.refl _ _, rfl, rfl, ⟨rfl, rfl, rfl, rfl, rfl, rfl, trivial⟩, rfl⟩
  · have e : brC bits L top base k = ⟨0, L⟩ := (if_neg c1).trans (if_neg c2)
    rw [e]
    have hw := fun b4 b5 b6 b7 => wys_no b4 b5 b6 b7 c1 c2
    generalize kdOf L top k = kk at *
    refine Fn.of tblOK [1,2,3,5] _ _ _ _ _ Tryz.func54 rfl rfl (by kernel_rfl) (by kernel_rfl) rfl (drawOK tblOK) rfl ?_
    refine ⟨rfl, rfl, rfl, rfl, ?_⟩
    show TrQ _ _ _ _ _ _ _
    refine TrQ.leX (LeX.mark 4 9004 rfl (by decide)) fun b4 => ?_
    refine TrQ.leX (LeX.mark 5 9005 rfl (by decide)) fun b5 => ?_
    refine TrQ.leX (LeX.mark 6 9006 rfl (by decide)) fun b6 => ?_
    refine TrQ.leX (LeX.mark 7 9007 rfl (by decide)) fun b7 => ?_
    refine TrQ.go tblOK (drawOK tblOK) [2,3,5] (by kernel_rfl) (Le.refl _ _) ?_
    refine ⟨rfl, ?_⟩
    refine ⟨_, _, fun N => opOK_insFn (m1 := 9004) (m2 := 9006) (m3 := 9005) (b1 := b4) (b2 := b6) (b3 := b5) (ch' := .map uI .fn (mput (ku := uI) (vu := .fn) [] (1 : Int) (84, [b4, b6, b5]))) rfl Tryz.underlying146 Tryz.underlying3 rfl rfl rfl rfl rfl rfl rfl (.inl rfl) (.inl rfl) N, rfl, ?_⟩
    refine ⟨_, _, fun N => opOK_insFn (m1 := 9004) (m2 := 9006) (m3 := 9007) (b1 := b4) (b2 := b6) (b3 := b7) (ch' := .obj (wayO (wys b4 b5 b6 b7))) rfl Tryz.underlying146 Tryz.underlying3 rfl rfl rfl rfl rfl rfl rfl (.inl rfl) (.inr rfl) N, rfl, ?_⟩
    show TrQ _ _ _ _ _ _ _
    refine TrQ.go tblOK (drawOK tblOK) [3,5] (by kernel_rfl) (Le.sub (K' := [(4, vP 4), (5, vP 5), (6, vP 6), (7, vP 7), (9, .c (.one (.mp 12)))]) (B' := bnB bits room L top base l k a long b4 b5 b6 b7 (wys b4 b5 b6 b7)) ⟨rfl, rfl, rfl, rfl, rfl, trivial⟩ ⟨rfl, rfl, rfl, rfl, rfl, rfl, rfl, rfl, rfl, rfl, rfl, rfl, rfl, rfl, rfl, trivial⟩) ?_
    refine ⟨_, _, _, _, image_fn _ _ L h.toChN top d hd, ⟨rfl, rfl, rfl, rfl, trivial⟩, rfl, ?_⟩
    refine ⟨_, _, _, _, imFn hik hLm rfl rfl rfl rfl, ⟨rfl, trivial⟩, rfl, ?_⟩
    refine ⟨_, _, fun N => opOK_getFn tblOK (ti := _) rfl Tryz.underlying146 Tryz.underlying3 rfl rfl rfl rfl (hw b4 b5 b6 b7) N, rfl, ?_⟩
    refine ⟨rfl, ?_⟩
    show TrQ _ _ _ _ _ _ _
    refine TrQ.go tblOK (drawOK tblOK) [5] (by kernel_rfl) (Le.sub (K' := [(11, vLit false)]) (B' := mjB bits room L top base l false) ⟨rfl, trivial⟩ ⟨rfl, rfl, rfl, rfl, rfl, rfl, trivial⟩) ?_
    exact ⟨_, _, _, Le.refl _ _, rfl, rfl, ⟨rfl, rfl, rfl, rfl, rfl, rfl, trivial⟩, rfl⟩
end
end Go.Proofs.YtaciecbbiplgiaaGreat
