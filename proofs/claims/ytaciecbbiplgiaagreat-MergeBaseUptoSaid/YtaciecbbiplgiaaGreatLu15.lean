/-
  Merges: alive of law 15; jobs are kept.
-/
import Derived.Test.YtaciecbbiplgiaaGreatMk
import Derived.Test.YtaciecbbiplgiaaGreatLv15
set_option linter.unusedVariables false
set_option linter.unusedSimpArgs false
set_option maxRecDepth 10000
namespace Go.Proofs.YtaciecbbiplgiaaGreat
open Go.RowKit Go.Proofs
def akX : List UInt8 := 120 :: List.replicate 15 0
def bk1 (p : Nat × Nat) : List Dsk := (adC 0 20 [] [97] 4 [] p).L
def bk2 (p q : Nat × Nat) : List Dsk := (adC 0 20 (bk1 p) [98] 4 [97] q).L
def bk3 (p q : Nat × Nat) : List Dsk := (wrC 0 (bk2 p q) [98] 1 akX).L
def bk4 (p q : Nat × Nat) : List Dsk := (brC 0 (bk3 p q) [98] [97] 1).L
def bk5 (p q : Nat × Nat) : List Dsk := (dsC (bk4 p q) [98] 0 ((4 * 2 ^ 0 : Nat) : Int)).L
theorem usr_len (L : List Dsk) (n : List UInt8) : (usrS L n).length = ((mkeys (chE L)).filter (isUsr L n)).length := ((List.mergeSort_perm (mkeys (chE L)) leB).filter _).length_eq
theorem bk_us (p q : Nat × Nat) : ((mkeys (chE (bk3 p q))).filter (isUsr (bk3 p q) [97])).length = 1 := by kernel_rfl
theorem bk_bc (p q : Nat × Nat) : bkC (bk3 p q) [98] = ([97], 0) := by kernel_rfl
theorem bk_za (p q : Nat × Nat) : szOf (bk3 p q) [97] = 4 := by kernel_rfl
theorem bk_zb (p q : Nat × Nat) : szOf (bk3 p q) [98] = 4 := by kernel_rfl
theorem bk_be (p q : Nat × Nat) : mbE (bk3 p q) [98] = 0 := by
  unfold mbE
  rw [bk_bc]
  simp only
  rw [usr_len, bk_us, bk_za, bk_zb]
  rfl
theorem bk_bl (p q : Nat × Nat) : mbL (bk3 p q) [98] = [1] := by kernel_rfl
theorem bk_bk (p q : Nat × Nat) : (bkC (bk3 p q) [98]).1 = [97] := by kernel_rfl
theorem bk_k3 (p q : Nat × Nat) : (dk (bk3 p q) [98]).isSome = true := by kernel_rfl
theorem bk_z3 (p q : Nat × Nat) : szOf (bk3 p q) [98] = 4 := by kernel_rfl
theorem bk_e4 (p q : Nat × Nat) : (brC 0 (bk3 p q) [98] [97] 1).e = 0 := by kernel_rfl
theorem bk_k4 (p q : Nat × Nat) : (dk (bk4 p q) [98]).isSome = true := by kernel_rfl
theorem bk_z4 (p q : Nat × Nat) : szOf (bk4 p q) [98] = 4 := by kernel_rfl
theorem bk_k5 (p q : Nat × Nat) : (dk (bk5 p q) [98]).isSome = true := by kernel_rfl
theorem bk_z5 (p q : Nat × Nat) : szOf (bk5 p q) [98] = 4 := by kernel_rfl
theorem bk_rd (p q : Nat × Nat) : rdC 0 (bk5 p q) [97] 1 1 = (akX, 0) := by kernel_rfl
theorem bk_kd (p q : Nat × Nat) : kdOf (bk5 p q) [98] 1 = 0 := by kernel_rfl
/-! ### a job is kept -/
section
variable {bits room : Nat} {L : List Dsk} {top base : List UInt8} {l : List Nat}
structure MI (bits room : Nat) (L : List Dsk) (top : List UInt8) (l : List Nat) : Prop where
  cs : CS bits room L
  kn : (dk L top).isSome = true
  lt : ∀ k, k ∈ l → k < szOf L top
  nd : l.Nodup
theorem MI.lm {L' : List Dsk} {t : List UInt8} (h : MI bits room L top l) (hl : Lm L t L') : MI bits room L' top l := ⟨hl.cs h.cs, by rw [(hl.sz top).2]; exact h.kn, fun k hk => by rw [(hl.sz top).1]; exact h.lt k hk, h.nd⟩
theorem brC_lm (h : CS bits room L) (top base : List UInt8) (k : Nat) : Lm L base (brC bits L top base k).L := by
  unfold brC
  split
  · exact wrC_lm h _ _ _
  · split
    · exact zrC_lm h _ _ _
    · exact .inl rfl
theorem MI.step (h : MI bits room L top l) (base : List UInt8) (over : Bool) : MI bits room (mstep bits L top base l over).L top (mstep bits L top base l over).l := by
  unfold mstep
  split
  · exact h
  · split
    · exact ⟨(h.lm (dsC_lm h.cs _ _ _)).cs, (h.lm (dsC_lm h.cs _ _ _)).kn, fun k hk => (by cases hk), List.nodup_nil⟩
    · have h1 := h.lm (brC_lm h.cs top base (mnN l))
      refine ⟨h1.cs, h1.kn, fun k hk => h1.lt k ?_, ?_⟩
      · have hk : k ∈ (if (brC bits L top base (mnN l)).e = 0 then l.erase (mnN l) else l) := hk
        split at hk
        · exact List.mem_of_mem_erase hk
        · exact hk
      · show (if (brC bits L top base (mnN l)).e = 0 then l.erase (mnN l) else l).Nodup
        split
        · exact h.nd.erase _
        · exact h.nd
theorem MI.beg (h : CS bits room L) (he : mbE L top = 0) : MI bits room L top (mbL L top) := by
  obtain ⟨d, hd, _⟩ := bkC_ok h (mbE_ok he).1
  exact ⟨h, by rw [hd]; rfl, fun k hk => List.mem_range.1 (List.mem_filter.1 hk).1, List.nodup_range.filter _⟩
theorem MI.get (h : MI bits room L top l) : ∃ d, dk L top = some d ∧ ∀ k, k ∈ l → k < d.im.t.length := by
  obtain ⟨d, hd⟩ := Option.isSome_iff_exists.1 h.kn
  refine ⟨d, hd, fun k hk => ?_⟩
  have := h.lt k hk
  unfold szOf at this
  rw [hd] at this
  exact this
theorem MI.len (h : MI bits room L top l) : l.length ≤ szOf L top ∧ szOf L top ≤ 256 := by
  obtain ⟨d, hd, _⟩ := h.get
  refine ⟨nodup_lt _ l h.nd h.lt, ?_⟩
  unfold szOf
  rw [hd]
  exact (h.cs.ims d (dk_get hd).1).1.tl
theorem MI.stepFn (h : MI bits room L top l) (base : List UInt8) (over : Bool) : Fn Tryz.prog 18 [vP 2001] (mjB bits room L top base l over) [] (.tup [.one (.d (.bool (mstep bits L top base l over).done)), vErr (mstep bits L top base l over).e]) (mjB bits room (mstep bits L top base l over).L top base (mstep bits L top base l over).l (mstep bits L top base l over).over) :=
  let ⟨_, hd, hl⟩ := h.get
  mstep_fn h.cs base l over hd hl h.nd
theorem mwr_mem {bits n : Nat} {l : List Nat} {a long : Int} : ∀ {k : Nat}, k ∈ mwr bits n l a long → k ∈ l ∨ k < n := by
  induction n with
  | zero => exact fun h => .inl h
  | succ n ih =>
    intro k hk
    rw [mwr_succ] at hk
    split at hk
    · rcases lput_mem.1 hk with hk | rfl
      · exact (ih hk).imp id (by omega)
      · exact .inr (by omega)
    · exact (ih hk).imp id (by omega)
theorem mwr_nodup {bits n : Nat} {l : List Nat} {a long : Int} (h : l.Nodup) : (mwr bits n l a long).Nodup := by
  induction n with
  | zero => exact h
  | succ n ih =>
    rw [mwr_succ]
    split
    · exact lput_nodup ih
    · exact ih
theorem MI.wr (h : MI bits room L top l) (over : Bool) (a long : Int) : MI bits room L top (mwC bits L top l over a long) := by
  unfold mwC
  split
  · exact h
  · exact ⟨h.cs, h.kn, fun k hk => (mwr_mem hk).elim (h.lt k) id, mwr_nodup h.nd⟩
end
/-! ### alive -/
@[reducible] def akK : KL := [(1, vP 1001), (3, vL .u8 akX)]
set_option maxHeartbeats 1000000 in
theorem alive15_fn : Fn Tryz.prog 13 [] [] [] (vB true) [] := by
  have c0 : CS 0 20 [] := CS.nil (by decide) (by decide)
  refine Fn.of tblOK [6,7,8,9,12,15,18] _ _ _ _ _ Tryz.func13 rfl rfl (by kernel_rfl) (by kernel_rfl) rfl (drawOK tblOK) rfl ?_
  refine ⟨_, _, _, _, chnew_ok 0 20 (by decide) (by decide), trivial, rfl, ?_⟩
  refine ⟨fun h => absurd h (by decide), fun _ => ?_⟩
  refine ⟨⟨rfl, by decide, by decide⟩, rfl, ?_⟩
  refine ⟨⟨by decide, by decide⟩, ⟨⟨by decide, by decide⟩, by decide⟩, ?_⟩
  show TrQ _ _ _ _ _ _ _
  refine TrQ.le (Le.frz 26 rfl) ?_
  refine TrQ.le (Le.sub (K' := akK) (B' := chB 0 20 []) ⟨rfl, rfl, trivial⟩ ⟨rfl, rfl, rfl, rfl, trivial⟩) ?_
  refine TrQ.regionX tblOK (by kernel_rfl) ?_
  refine ⟨_, _, _, fun g => _, fun g => _, chadd_fn c0 [97] 4 [] (by decide), ⟨rfl, rfl, rfl, rfl, trivial⟩, rfl, fun _ => rfl, fun p => ?_⟩
  obtain ⟨p, c1⟩ := p
  have c1 : CS 0 20 (bk1 p) := c1
  show TrQ _ _ _ _ _ _ _
  refine TrQ.le (Le.sub (K' := akK) (B' := chB 0 20 (bk1 p)) ⟨rfl, rfl, trivial⟩ ⟨rfl, rfl, rfl, rfl, trivial⟩) ?_
  refine TrQ.regionX tblOK (by kernel_rfl) ?_
  refine ⟨_, _, _, fun g => _, fun g => _, chadd_fn c1 [98] 4 [97] (by decide), ⟨rfl, rfl, rfl, rfl, trivial⟩, rfl, fun _ => rfl, fun q => ?_⟩
  obtain ⟨q, c2⟩ := q
  have c2 : CS 0 20 (bk2 p q) := c2
  have c3 : CS 0 20 (bk3 p q) := wrC_cs c2 _ _ _
  have m3 : MI 0 20 (bk3 p q) [98] [1] := by have := MI.beg c3 (bk_be p q); rwa [bk_bl] at this
  have e4 : mstep 0 (bk3 p q) [98] [97] [1] false = ⟨false, 0, bk4 p q, [], false⟩ := by
    have : mstep 0 (bk3 p q) [98] [97] [1] false = ⟨false, (brC 0 (bk3 p q) [98] [97] 1).e, (brC 0 (bk3 p q) [98] [97] 1).L, if (brC 0 (bk3 p q) [98] [97] 1).e = 0 then [] else [1], false⟩ := rfl
    rw [this, bk_e4]
    rfl
  have hs1 := m3.stepFn [97] false
  have m4 := m3.step [97] false
  rw [e4] at hs1 m4
  have m4 : MI 0 20 (bk4 p q) [98] [] := m4
  have e5 : mstep 0 (bk4 p q) [98] [97] [] false = ⟨true, 0, bk5 p q, [], true⟩ := by
    have : mstep 0 (bk4 p q) [98] [97] [] false = ⟨true, 0, (dsC (bk4 p q) [98] 0 ((szOf (bk4 p q) [98] * 2 ^ 0 : Nat) : Int)).L, [], true⟩ := rfl
    rw [this, bk_z4]
    rfl
  have hs2 := m4.stepFn [97] false
  have m5 := m4.step [97] false
  rw [e5] at hs2 m5
  have m5 : MI 0 20 (bk5 p q) [98] [] := m5
  have hs3 := m5.stepFn [97] true
  rw [show mstep 0 (bk5 p q) [98] [97] [] true = ⟨false, 150, bk5 p q, [], true⟩ from rfl] at hs3
  have hw := chwrite_fn c2 [98] 1 akX (by decide)
  have e3 : (wrC 0 (bk2 p q) [98] 1 akX).L = bk3 p q := rfl
  rw [e3] at hw
  generalize (wrC 0 (bk2 p q) [98] 1 akX).e = w4 at hw
  have hb := mbegin_ok c3 [98] (bk_be p q)
  rw [bk_bl, bk_bk] at hb
  have hlf := mleft_fn ((0 : Nat) : Int) ((20 : Nat) : Int) (bk3 p q) [98] [97] [1] false
  have hr := chread_fn m5.cs [97] 1 1
  rw [bk_rd] at hr
  obtain ⟨d, hd⟩ := Option.isSome_iff_exists.1 (bk_k5 p q)
  have hLm := m5.cs.toChN.M (dk_get hd).1
  have htl := (m5.cs.ims d (dk_get hd).1).1.tl
  have hz := bk_z5 p q
  have hkk := bk_kd p q
  have hz : d.im.t.length = 4 := by unfold szOf at hz; rw [hd] at hz; exact hz
  have hik := ikindD_fn d.im htl 1 (by omega)
  have hkk : (d.im.t.getD 1 s0).1 = 0 := by unfold kdOf at hkk; rw [hd] at hkk; exact hkk
  rw [hkk] at hik
  have him := image_fn ((0 : Nat) : Int) ((20 : Nat) : Int) (bk5 p q) m5.cs.toChN [98] d hd
  show TrQ _ _ _ _ _ _ _
  refine TrQ.le (Le.sub (K' := akK) (B' := chB 0 20 (bk2 p q)) ⟨rfl, rfl, trivial⟩ ⟨rfl, rfl, rfl, rfl, trivial⟩) ?_
  clear e3 e4 e5 c3 m3 m4 hkk hz
  generalize bk2 p q = L2 at *
  generalize bk3 p q = L3 at *
  generalize bk4 p q = L4 at *
  generalize bk5 p q = L5 at *
  refine TrQ.go tblOK (drawOK tblOK) [9,12,15,18] (by kernel_rfl) (Le.refl _ _) ?_
  refine ⟨_, _, _, _, hw, ⟨rfl, rfl, rfl, rfl, trivial⟩, rfl, ?_⟩
  show TrQ _ _ _ _ _ _ _
  refine TrQ.go tblOK (drawOK tblOK) [12,15,18] (by kernel_rfl) (Le.sub (K' := akK) (B' := chB 0 20 L3) ⟨rfl, rfl, trivial⟩ ⟨rfl, rfl, rfl, rfl, trivial⟩) ?_
  refine ⟨_, _, _, _, hb, ⟨rfl, rfl, rfl, rfl, trivial⟩, rfl, ?_⟩
  refine ⟨fun h => absurd h (by decide), fun _ => ?_⟩
  show TrQ _ _ _ _ _ _ _
  refine TrQ.go tblOK (drawOK tblOK) [15,18] (by kernel_rfl) (Le.sub (K' := [(1, vP 1001), (3, vL .u8 akX), (4, vP 2001)]) (B' := mjB 0 20 L3 [98] [97] [1] false) ⟨rfl, rfl, rfl, trivial⟩ ⟨rfl, rfl, rfl, rfl, rfl, rfl, trivial⟩) ?_
  refine ⟨_, _, _, _, hlf, ⟨rfl, rfl, rfl, rfl, rfl, rfl, trivial⟩, rfl, ?_⟩
  refine ⟨_, _, _, _, hs1, ⟨rfl, rfl, rfl, rfl, rfl, rfl, trivial⟩, rfl, ?_⟩
  refine ⟨_, _, _, _, hs2, ⟨rfl, rfl, rfl, rfl, rfl, rfl, trivial⟩, rfl, ?_⟩
  show TrQ _ _ _ _ _ _ _
  refine TrQ.go tblOK (drawOK tblOK) [18] (by kernel_rfl) (Le.sub (K' := [(1, vP 1001), (3, vL .u8 akX), (4, vP 2001), (6, vI 1), (7, vB false), (8, vI 0), (9, vB true), (10, vI 0)]) (B' := mjB 0 20 L5 [98] [97] [] true) ⟨rfl, rfl, rfl, rfl, rfl, rfl, rfl, rfl, trivial⟩ ⟨rfl, rfl, rfl, rfl, rfl, rfl, trivial⟩) ?_
  refine ⟨_, _, _, _, hs3, ⟨rfl, rfl, rfl, rfl, rfl, rfl, trivial⟩, rfl, ?_⟩
  refine ⟨_, _, _, _, hr, ⟨rfl, rfl, rfl, rfl, trivial⟩, rfl, ?_⟩
  refine ⟨_, _, _, _, him, ⟨rfl, rfl, rfl, rfl, trivial⟩, rfl, ?_⟩
  show TrQ _ _ _ _ _ _ _
  refine TrQ.go tblOK (drawOK tblOK) [] (by kernel_rfl) (Le.sub (K' := [(3, vL .u8 akX), (6, vI 1), (7, vB false), (8, vI 0), (9, vB true), (10, vI 0), (12, vI 150), (13, vL .u8 akX), (14, vI 0), (15, vAd d.am)]) (B' := chB 0 20 L5) ⟨rfl, rfl, rfl, rfl, rfl, rfl, rfl, rfl, rfl, rfl, trivial⟩ ⟨rfl, rfl, rfl, rfl, trivial⟩) ?_
  refine ⟨fun _ => ?_, fun h => absurd h (by decide)⟩
  refine ⟨fun _ => ?_, fun h => absurd h (by decide)⟩
  refine ⟨fun _ => ?_, fun h => absurd h (by decide)⟩
  refine ⟨fun _ => ?_, fun h => absurd h (by decide)⟩
  refine ⟨fun _ => ?_, fun h => absurd h (by decide)⟩
  refine ⟨fun _ => ?_, fun h => absurd h (by decide)⟩
  refine ⟨fun _ => ?_, fun h => absurd h (by decide)⟩
  refine ⟨fun _ => ?_, fun h => absurd h (by decide)⟩
  refine ⟨fun _ _ => ?_, fun h => by cases h⟩
  refine ⟨_, _, _, _, imFn hik hLm rfl rfl rfl rfl, ⟨rfl, trivial⟩, rfl, ?_⟩
  exact ⟨_, _, _, Le.refl _ _, rfl, rfl, trivial, rfl⟩
end Go.Proofs.YtaciecbbiplgiaaGreat
