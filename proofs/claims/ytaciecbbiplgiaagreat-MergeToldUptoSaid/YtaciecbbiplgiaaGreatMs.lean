/-
  Merges: Step.
-/
import Derived.Test.YtaciecbbiplgiaaGreatMj
set_option linter.unusedVariables false
set_option linter.unusedSimpArgs false
set_option maxRecDepth 10000
namespace Go.Proofs.YtaciecbbiplgiaaGreat
open Go.RowKit Go.Proofs
section
variable {bits room : Nat} {L : List Dsk} {top base : List UInt8}
set_option maxHeartbeats 1000000 in
theorem mstep_fn (h : CS bits room L) (base : List UInt8) (l : List Nat) (over : Bool) {d : Dsk} (hd : dk L top = some d) (hl : ∀ k, k ∈ l → k < d.im.t.length) (hn : l.Nodup) : Fn Tryz.prog 18 [vP 2001] (mjB bits room L top base l over) [] (.tup [.one (.d (.bool (mstep bits L top base l over).done)), vErr (mstep bits L top base l over).e]) (mjB bits room (mstep bits L top base l over).L top base (mstep bits L top base l over).l (mstep bits L top base l over).over) := by
  have htl := (h.ims d (dk_get hd).1).1.tl
  have hLm := h.toChN.M (dk_get hd).1
  have hbt : d.im.bits = bits := (h.ims d (dk_get hd).1).2.1
  have hb3 := h.b3
  have hp := pow_le8 h.b3
  cases over with
  | true =>
    have e : mstep bits L top base l true = ⟨false, 150, L, l, true⟩ := if_pos rfl
    rw [e]
    refine Fn.of tblOK [] _ _ _ _ _ Tryz.func18 rfl rfl (by kernel_rfl) (by kernel_rfl) rfl (drawOK tblOK) rfl ?_
    refine ⟨_, _, _, _, image_fn _ _ L h.toChN top d hd, ⟨rfl, rfl, rfl, rfl, trivial⟩, rfl, ?_⟩
    refine ⟨rfl, ?_⟩
    refine ⟨fun _ => ?_, fun h => absurd h (by decide)⟩
    exact ⟨_, _, _, Le.refl _ _, rfl, ⟨rfl, rfl, trivial⟩, ⟨rfl, rfl, rfl, rfl, rfl, rfl, trivial⟩, rfl⟩
  | false =>
    have eQ : (1 : Int) * ((2 ^ ((d.im.bits : Nat) : Int).toNat : Nat) : Int) = ((2 ^ bits : Nat) : Int) := by
      rw [hbt, Int.one_mul]
      rfl
    have n1 : (0 : Int) ≤ (1 : Int) ∧ (0 : Int) ≤ ((d.im.bits : Nat) : Int) ∧ ((d.im.bits : Nat) : Int) ≤ 64 := by omega
    have n2 : (-9223372036854775808 : Int) ≤ (1 : Int) * ((2 ^ ((d.im.bits : Nat) : Int).toNat : Nat) : Int) ∧ (1 : Int) * ((2 ^ ((d.im.bits : Nat) : Int).toNat : Nat) : Int) ≤ 9223372036854775807 := by rw [eQ]; omega
    by_cases hne : l = []
    · have hsz : szOf L top = d.im.t.length := by unfold szOf; rw [hd]
      have e : mstep bits L top base l false = ⟨true, 0, (dsC L top 0 ((d.im.t.length * 2 ^ bits : Nat) : Int)).L, [], true⟩ := by
        unfold mstep
        rw [if_neg (by decide), if_pos hne, hsz]
      rw [e]
      subst hne
      have hds := chdisc_fn h top 0 ((d.im.t.length * 2 ^ bits : Nat) : Int)
      have hdcs := dsC_cs h top 0 ((d.im.t.length * 2 ^ bits : Nat) : Int)
      have mk : d.im.t.length * 2 ^ bits ≤ 256 * 8 := Nat.mul_le_mul htl hp.2
      have em : ((d.im.t.length : Nat) : Int) * ((2 ^ bits : Nat) : Int) = ((d.im.t.length * 2 ^ bits : Nat) : Int) := by rw [Int.natCast_mul]
      have m3 : (-9223372036854775808 : Int) ≤ ((d.im.t.length : Nat) : Int) * ((2 ^ bits : Nat) : Int) ∧ ((d.im.t.length : Nat) : Int) * ((2 ^ bits : Nat) : Int) ≤ 9223372036854775807 := by rw [em]; omega
      rw [← em] at hds ⊢
      generalize dsC L top 0 (((d.im.t.length : Nat) : Int) * ((2 ^ bits : Nat) : Int)) = r at *
      refine Fn.of tblOK [4,6,7] _ _ _ _ _ Tryz.func18 rfl rfl (by kernel_rfl) (by kernel_rfl) rfl (drawOK tblOK) rfl ?_
      refine ⟨_, _, _, _, image_fn _ _ L h.toChN top d hd, ⟨rfl, rfl, rfl, rfl, trivial⟩, rfl, ?_⟩
      refine ⟨rfl, ?_⟩
      refine ⟨fun h => absurd h (by decide), fun _ => ?_⟩
      refine ⟨fun _ _ => ?_, fun h => by cases h⟩
      show TrQ _ _ _ _ _ _ _
      refine TrQ.go tblOK (drawOK tblOK) [6,7] (by kernel_rfl) (Le.sub (K' := [(0, vP 2001), (4, vAd d.am)]) (B' := mjB bits room L top base [] false) ⟨rfl, rfl, trivial⟩ ⟨rfl, rfl, rfl, rfl, rfl, rfl, trivial⟩) ?_
      refine ⟨_, _, _, _, imFn (ibits_fn d.im) hLm rfl rfl rfl rfl, ⟨rfl, trivial⟩, rfl, ?_⟩
      refine ⟨n1, n2, ?_⟩
      refine ⟨fun _ => ?_, fun h => absurd h (by decide)⟩
      show TrQ _ _ _ _ _ _ _
      refine TrQ.go tblOK (drawOK tblOK) [7] (by kernel_rfl) (Le.sub (K' := [(0, vP 2001), (4, vAd d.am), (5, vI ((2 ^ bits : Nat) : Int))]) (B' := mjB bits room L top base [] false) ⟨rfl, rfl, eQ, trivial⟩ ⟨rfl, rfl, rfl, rfl, rfl, rfl, trivial⟩) ?_
      refine ⟨_, _, _, _, imFn (isize_fn d.im) hLm rfl rfl rfl rfl, ⟨rfl, trivial⟩, rfl, ?_⟩
      refine ⟨m3, ?_⟩
      refine ⟨_, _, _, _, hds, ⟨rfl, rfl, rfl, rfl, trivial⟩, rfl, ?_⟩
      refine ⟨rfl, ?_⟩
      show TrQ _ _ _ _ _ _ _
      refine TrQ.go tblOK (drawOK tblOK) [] (by kernel_rfl) (Le.sub (K' := [(0, vP 2001)]) (B' := mjB bits room r.L top base [] false) ⟨rfl, trivial⟩ ⟨rfl, rfl, rfl, rfl, rfl, rfl, trivial⟩) ?_
      refine ⟨_, _, _, _, mend_fn bits room r.L top base [] false, ⟨rfl, rfl, rfl, rfl, rfl, rfl, trivial⟩, rfl, ?_⟩
      exact ⟨_, _, _, Le.refl _ _, rfl, ⟨rfl, rfl, trivial⟩, ⟨rfl, rfl, rfl, rfl, rfl, rfl, trivial⟩, rfl⟩
    · have e : mstep bits L top base l false = ⟨false, (brC bits L top base (mnN l)).e, (brC bits L top base (mnN l)).L, if (brC bits L top base (mnN l)).e = 0 then l.erase (mnN l) else l, false⟩ := by
        unfold mstep
        rw [if_neg (by decide), if_neg hne]
      rw [e]
      obtain ⟨q1, q2, q3⟩ := mnN_spec hne
      have hk := hl _ q2
      have hmin : ∀ g : { ss : List Int // ss.Perm (mkeysI (esL l)) }, mnL g.1 = ((mnN l : Nat) : Int) := fun g => by
        rw [mnL_perm g.2 (by rw [mkeys_esL]; simpa using hne), mkeys_esL]
        exact q1
      have hlg : ∀ g : { ss : List Int // ss.Perm (mkeysI (esL l)) }, g.1.length = l.length := fun g => by
        rw [g.2.length_eq, mkeys_esL, List.length_map]
      have hll : l.length ≤ 256 := by
        have := nodup_lt d.im.t.length l hn hl
        omega
      have hl0 : 0 < l.length := List.length_pos_iff.2 hne
      have hel := esL_len l
      have hco := collectI_fn (esL l) (esL_nodup hn) (esL_wf fun k hk => by have := hl k hk; omega) (by omega)
      have mk : mnN l * 2 ^ bits ≤ 256 * 8 := Nat.mul_le_mul (by omega) hp.2
      have em : ((mnN l : Nat) : Int) * ((2 ^ bits : Nat) : Int) = ((mnN l * 2 ^ bits : Nat) : Int) := by rw [Int.natCast_mul]
      have m3 : (-9223372036854775808 : Int) ≤ ((mnN l : Nat) : Int) * ((2 ^ bits : Nat) : Int) ∧ ((mnN l : Nat) : Int) * ((2 ^ bits : Nat) : Int) ≤ 9223372036854775807 := by rw [em]; omega
      have hbr := bring_fn h base l (mnN l) _ _ em rfl hd hk
      have hdl := mdel_esL (mnN l) l
      generalize mnN l = mn at *
      generalize brC bits L top base mn = r at *
      refine Fn.of tblOK [4,9,10,12] _ _ _ _ _ Tryz.func18 rfl rfl (by kernel_rfl) (by kernel_rfl) rfl (drawOK tblOK) rfl ?_
      refine ⟨_, _, _, _, image_fn _ _ L h.toChN top d hd, ⟨rfl, rfl, rfl, rfl, trivial⟩, rfl, ?_⟩
      refine ⟨rfl, ?_⟩
      refine ⟨fun h => absurd h (by decide), fun _ => ?_⟩
      refine ⟨fun _ _ => ?_, fun h => by cases h⟩
      show TrQ _ _ _ _ _ _ _
      refine TrQ.go tblOK (drawOK tblOK) [9,10,12] (by kernel_rfl) (Le.sub (K' := [(0, vP 2001), (4, vAd d.am)]) (B' := mjB bits room L top base l false) ⟨rfl, rfl, trivial⟩ ⟨rfl, rfl, rfl, rfl, rfl, rfl, trivial⟩) ?_
      refine ⟨_, _, _, _, imFn (ibits_fn d.im) hLm rfl rfl rfl rfl, ⟨rfl, trivial⟩, rfl, ?_⟩
      refine ⟨n1, n2, ?_⟩
      refine ⟨fun hc => ?_, fun _ => ?_⟩
      · exfalso
        have hc : decide ((((esL l).length : Nat) : Int) = 0) = true := hc
        have := of_decide_eq_true hc
        omega
      show TrQ _ _ _ _ _ _ _
      refine TrQ.le (Le.sub (K' := [(0, vP 2001), (5, vI ((2 ^ bits : Nat) : Int))]) (B' := mjB bits room L top base l false) ⟨rfl, eQ, trivial⟩ ⟨rfl, rfl, rfl, rfl, rfl, rfl, trivial⟩) ?_
      refine TrQ.regionX tblOK (by kernel_rfl) ?_
      refine ⟨_, _, _, fun g => _, fun g => _, (Fn.ren [(1001, 2002), (2001, 9001)] (mapsKeysI_fn (esL l))).x, ⟨rfl, trivial⟩, rfl, fun _ => rfl, fun _ => ?_⟩
      refine ⟨_, _, _, fun g => _, fun g => _, FnX.ren [(1001, 2002), (2001, 9001)] hco, ⟨rfl, rfl, trivial⟩, rfl, fun _ => rfl, fun g => ?_⟩
      have hg0 := hlg g
      have hmg := hmin g
      refine ⟨_, _, _, fun g => _, fun g => _, (minI_fn g.1 (by omega) (by omega)).x, trivial, rfl, fun _ => rfl, fun _ => ?_⟩
      show TrQ _ _ _ _ _ _ _
      refine TrQ.go tblOK (drawOK tblOK) [12] (by kernel_rfl) (Le.sub (K' := [(0, vP 2001), (5, vI ((2 ^ bits : Nat) : Int)), (6, vI (mn : Nat))]) (B' := mjB bits room L top base l false) ⟨rfl, rfl, hmg, trivial⟩ ⟨rfl, rfl, rfl, rfl, rfl, rfl, trivial⟩) ?_
      refine ⟨m3, ?_⟩
      refine ⟨_, _, _, _, hbr, ⟨rfl, rfl, rfl, rfl, rfl, rfl, trivial⟩, rfl, ?_⟩
      refine ⟨fun he => ?_, fun he => ?_⟩
      · have he : r.e = 0 := of_decide_eq_true he
        show TrQ _ _ _ _ _ _ _
        refine TrQ.go tblOK (drawOK tblOK) [] (by kernel_rfl) (Le.sub (K' := [(0, vP 2001), (6, vI (mn : Nat)), (7, vI r.e)]) (B' := mjB bits room r.L top base l false) ⟨rfl, rfl, rfl, trivial⟩ ⟨rfl, rfl, rfl, rfl, rfl, rfl, trivial⟩) ?_
        exact ⟨_, _, _, Le.refl _ _, rfl, ⟨rfl, rfl, trivial⟩, ⟨rfl, rfl, rfl, rfl, rfl, congrArg (fun z => some (Ch.map uI uI z)) (hdl.trans (congrArg esL (if_pos he).symm)), trivial⟩, rfl⟩
      · have he : ¬ r.e = 0 := of_decide_eq_false he
        exact ⟨_, _, _, Le.refl _ _, rfl, ⟨rfl, rfl, trivial⟩, ⟨rfl, rfl, rfl, rfl, rfl, congrArg (fun z => some (Ch.map uI uI (esL z))) (if_neg he).symm, trivial⟩, rfl⟩
end
end Go.Proofs.YtaciecbbiplgiaaGreat
