/-
  Images: Zero.
-/
import Derived.Test.YtolaecebfkdbcaaGreatIw
set_option linter.unusedVariables false
set_option linter.unusedSimpArgs false
set_option maxRecDepth 10000
namespace Go.Proofs.YtolaecebfkdbcaaGreat
open Go.RowKit Go.Proofs
def isWhole (s : ImS) (p : Pce) : Bool := decide (p.b - p.a = wid s)
theorem zwhole_fn (s : ImS) (hb : s.bits ≤ 3) (p : Pce) (h1 : p.a ≤ p.b) (h2 : p.b ≤ 1000) : Fn Tryz.prog 113 [vPc p, vP 4] (imB s ++ [(4, .cells [.ptr 1001 0])]) [] (vB (isWhole s p)) (imB s ++ [(4, .cells [.ptr 1001 0])]) := by
  have m4 : (-9223372036854775808 : Int) ≤ (p.b : Int) - (p.a : Int) ∧ (p.b : Int) - (p.a : Int) ≤ 9223372036854775807 := by omega
  refine Fn.of tblOK [] _ _ _ _ _ Tryz.func113 rfl rfl (by kernel_rfl) (by kernel_rfl) rfl (drawOK tblOK) rfl ?_
  refine ⟨rfl, ?_⟩
  refine ⟨m4, ?_⟩
  refine ⟨_, _, _, _, ibytes_fn s hb, ⟨rfl, rfl, rfl, rfl, trivial⟩, rfl, ?_⟩
  refine ⟨rfl, ?_⟩
  refine ⟨_, _, _, Le.refl _ _, rfl, ?_, ⟨rfl, rfl, rfl, rfl, rfl, trivial⟩, rfl⟩
  show decide ((p.b : Int) - (p.a : Int) = ((wid s : Nat) : Int)) = isWhole s p
  unfold isWhole
  exact decide_eq_decide.2 (by omega)
def zNeeds (s : ImS) (p : Pce) : Bool := !isWhole s p && (decide ((s.t.getD p.c s0).1 ≠ 2) && iNeeds s p.c)
def zdK (s : ImS) (a l : Nat) : Nat → Nat
  | 0 => 0
  | k + 1 => zdK s a l k + (if zNeeds s (pce (wid s) a l k) = true then 1 else 0)
theorem zdK_le (s : ImS) (a l k : Nat) : zdK s a l k ≤ k := by
  induction k with
  | zero => exact Nat.le_refl _
  | succ k ih =>
    show zdK s a l k + _ ≤ k + 1
    split <;> omega
@[reducible] def sZr : Slt := ((2 : Int), (0 : Int), false)
@[reducible] def zerB (n : Nat) : List UInt8 := List.replicate n (0 : UInt8)
def zpS (s : ImS) (p : Pce) (y : List UInt8) : ImS := if isWhole s p = true then iset s p.c sZr else if (s.t.getD p.c s0).1 = 2 then s else iput s p (zerB (p.b - p.a)) y
def izrK (s : ImS) (a l : Nat) (y : Nat → List UInt8) : Nat → ImS
  | 0 => s
  | k + 1 => zpS (izrK s a l y k) (pce (wid s) a l k) (y (pce (wid s) a l k).c)
@[reducible] def izX0 (s : ImS) (R : Pl → Ob) (b1 b2 : Nat) : BL := imR s R ++ [(4, .cells [.ptr 1001 0]), (7, .cells [.d (.fn (109, [b1, b2]))]), (10, .cells [.clo 113 [.p 4 0]])]
@[reducible] def izX (s : ImS) (R : Pl → Ob) (b1 b2 : Nat) (n : Nat) : BL := imR s R ++ [(4, .cells [.ptr 1001 0]), (7, .cells [.d (.fn (109, [b1, b2]))]), (10, .cells [.clo 113 [.p 4 0]]), (11, .cells [.d (.int .i64 (n : Int))])]
@[reducible] def izKI2 (a l : Nat) : KL := [(1, vI (a : Int)), (2, vI (l : Int)), (4, vP 4), (7, vP 7), (10, vP 10)]
@[reducible] def zRo : KL := [(1000000 + 115, .undef), (1000000 + 110, .undef)]
@[reducible] def izKI (a l : Nat) : KL := zRo ++ [(1, vI (a : Int)), (2, vI (l : Int)), (4, vP 4), (7, vP 7), (10, vP 10), (11, vP 11)]
theorem ikindD_fn (s : ImS) (hl : s.t.length ≤ 256) (c : Nat) (hc : c < s.t.length) : Fn Tryz.prog 115 [vP 1001, vI (c : Int)] (imB s) [] (vI (s.t.getD c s0).1) (imB s) := by
  have h := ikind_fn s hl c hc
  have e : s.t[c] = s.t.getD c s0 := by rw [List.getD_eq_getElem?_getD, List.getElem?_eq_getElem hc]; rfl
  rwa [e] at h
set_option maxHeartbeats 1000000 in
theorem izero_in (s : ImS) (R : Pl → Ob) (b1 b2 : Nat) (hO : ImOK s) (a l : Nat) (h0 : iIns s a l = 0) (y : Nat → List UInt8) (r : Int) (s' : ImS) (hno : zeros s.l < zdK s a l (pcN (wid s) a l) → r = 120 ∧ s' = s) (hyes : zdK s a l (pcN (wid s) a l) ≤ zeros s.l → r = 0 ∧ s' = izrK s a l y (pcN (wid s) a l))
    (hOK : zdK s a l (pcN (wid s) a l) ≤ zeros s.l → ∀ k, k ≤ pcN (wid s) a l → ImOK (izrK s a l y k) ∧ (izrK s a l y k).bits = s.bits ∧ (izrK s a l y k).t.length = s.t.length)
    (hset : zdK s a l (pcN (wid s) a l) ≤ zeros s.l → ∀ k, k < pcN (wid s) a l → isWhole s (pce (wid s) a l k) = true → Fn Tryz.prog 116 [vP 1001, vI ((pce (wid s) a l k).c : Int), .c (vSl sZr)] (imB (izrK s a l y k)) [] vU (imB (izrK s a l y (k + 1))))
    (hput : zdK s a l (pcN (wid s) a l) ≤ zeros s.l → ∀ k, k < pcN (wid s) a l → isWhole s (pce (wid s) a l k) = false → ((izrK s a l y k).t.getD (pce (wid s) a l k).c s0).1 ≠ 2 → Fn Tryz.prog 112 [vP 1001, vPc (pce (wid s) a l k), vL .u8 (zerB ((pce (wid s) a l k).b - (pce (wid s) a l k).a)), vFn b1 b2] (imR (izrK s a l y k) R) [] vU (imR (izrK s a l y (k + 1)) R)) :
    Fn Tryz.prog 82 [vP 1001, vI (a : Int), vI (l : Int), vFn b1 b2] (imR s R) [] (vI r) (imR s' R) := by
  have hW := wid_isW hO.bits
  have hw := wid_le hO.bits
  have hall := iIns_all h0
  have hal : iall s ≤ 2048 := Nat.mul_le_mul hO.tl (pow_le8 hO.bits).2
  refine Fn.of tblOK [4,5,6,10,12,18] _ _ _ _ _ Tryz.func82 rfl rfl (by kernel_rfl) (by kernel_rfl) rfl (drawOK tblOK) rfl ?_
  refine ⟨rfl, rfl, ?_⟩
  refine ⟨_, _, _, _, iinside_fn s hO a l, ⟨rfl, rfl, rfl, rfl, trivial⟩, rfl, ?_⟩
  rw [h0]
  refine ⟨fun h => absurd h (by decide), fun _ => ?_⟩
  show TrQ _ _ _ _ _ _ _
  refine TrQ.go tblOK (drawOK tblOK) [5,6] (by kernel_rfl) (Le.refl _ _) ?_
  refine ⟨rfl, ?_⟩
  show TrQ _ _ _ _ _ _ _
  refine TrQ.go tblOK (drawOK tblOK) [6] (by kernel_rfl) (Le.sub (K' := izKI2 a l) (B' := izX0 s R b1 b2) ⟨rfl, rfl, rfl, rfl, rfl, trivial⟩ ⟨rfl, rfl, rfl, rfl, rfl, rfl, rfl, rfl, trivial⟩) ?_
  refine ⟨rfl, ?_⟩
  show TrQ _ _ _ _ _ _ _
  refine TrQ.ro 110 (by decide) (TrQ.ro 115 (by decide) ?_)
  refine TrQ.go tblOK (drawOK tblOK) [] (by kernel_rfl) (Le.sub (K' := izKI a l) (B' := izX s R b1 b2 0) ⟨trivial, trivial, rfl, rfl, rfl, rfl, rfl, rfl, trivial⟩ ⟨rfl, rfl, rfl, rfl, rfl, rfl, rfl, rfl, rfl, trivial⟩) ?_
  refine ⟨_, _, _, _, ipieces_fn s a l, ⟨rfl, rfl, rfl, rfl, trivial⟩, rfl, ?_⟩
  show TrQ _ _ _ _ _ _ _
  refine TrQ.le (Le.sub (K' := (25, .c (.one (.clo 118 [.p 2001 0, .p 2002 0, .p 2003 0]))) :: izKI a l) (B' := pbB a l ++ izX s R b1 b2 0) ⟨rfl, trivial, trivial, rfl, rfl, rfl, rfl, rfl, rfl, trivial⟩ ⟨rfl, rfl, rfl, rfl, rfl, rfl, rfl, rfl, rfl, rfl, rfl, rfl, trivial⟩) ?_
  refine TrQ.range tblOK [9] (pl := [26]) rfl (by kernel_rfl) (by kernel_rfl) (by kernel_rfl) (by kernel_rfl) [1001, 1002, 1003, 1004, 9000, 4, 7, 10, 11] _ (izKI a l) (pbB a l) (fun k : Nat => izX s R b1 b2 (zdK s a l k)) 1001 0 (pcN (wid s) a l) (fun k vs k' => k < pcN (wid s) a l ∧ vs = [vPc (pce (wid s) a l k)] ∧ k' = k + 1) rfl (by exact ⟨trivial, trivial, rfl, rfl, rfl, rfl, rfl, rfl, trivial⟩) rfl rfl ?_ ?_ ?_
  · rintro k vs k' ⟨hk, rfl, rfl⟩
    obtain ⟨hc, hkN⟩ := pce_c hO hall hk
    obtain ⟨p1, p2, p3, p4⟩ := pce_ok hW hk
    have hnl := zdK_le s a l k
    have e0 : zNeeds s (pce (wid s) a l k) = false → zdK s a l (k + 1) = zdK s a l k := fun hn => by
      show zdK s a l k + _ = _
      rw [if_neg (by rw [hn]; decide)]
      exact Nat.add_zero _
    have e1 : zNeeds s (pce (wid s) a l k) = true → ((zdK s a l k : Nat) : Int) + 1 = ((zdK s a l (k + 1) : Nat) : Int) := fun hn => by
      show _ = ((zdK s a l k + _ : Nat) : Int)
      rw [if_pos hn]
      omega
    have m4 : (-9223372036854775808 : Int) ≤ ((zdK s a l k : Nat) : Int) + 1 ∧ ((zdK s a l k : Nat) : Int) + 1 ≤ 9223372036854775807 := by omega
    have hwh := zwhole_fn s hO.bits (pce (wid s) a l k) p1 (by omega)
    refine ⟨rfl, rfl, ?_⟩
    refine ⟨rfl, ?_⟩
    refine ⟨rfl, ?_⟩
    refine ⟨_, _, _, _, hwh, ⟨rfl, rfl, rfl, rfl, rfl, trivial⟩, rfl, ?_⟩
    refine ⟨fun hn => ?_, fun hn => ?_⟩
    · have hn : isWhole s (pce (wid s) a l k) = false := by simpa using hn
      refine ⟨_, _, fun N => opOK_callR rfl rfl rfl (ikindD_fn s hO.tl _ hc) (by exact ⟨rfl, rfl, rfl, rfl, trivial⟩) rfl (fun _ => rfl) N, rfl, ?_⟩
      refine ⟨fun hn2 => ?_, fun hn2 => ?_⟩
      · have hn2 : ¬ (s.t.getD (pce (wid s) a l k).c s0).1 = 2 := by
          have hn2 : (!decide ((s.t.getD (pce (wid s) a l k).c s0).1 = 2)) = true := hn2
          simpa using hn2
        refine ⟨_, _, fun N => opOK_callR rfl rfl rfl (ineeds_fn s hO.tl _ hc) (by exact ⟨rfl, rfl, rfl, rfl, trivial⟩) rfl (fun _ => rfl) N, rfl, ?_⟩
        refine ⟨fun hn3 => ?_, fun hn3 => ?_⟩
        · have hz : zNeeds s (pce (wid s) a l k) = true := by
            unfold zNeeds
            rw [hn, decide_eq_true hn2, hn3]
            rfl
          show TrQ _ _ _ _ _ _ _
          refine TrQ.go tblOK (drawOK tblOK) [] (by kernel_rfl) (Le.sub (K' := [(11, vP 11)]) (B' := izX s R b1 b2 (zdK s a l k)) ⟨rfl, trivial⟩ ⟨rfl, rfl, rfl, rfl, rfl, rfl, rfl, rfl, rfl, trivial⟩) ?_
          refine ⟨m4, ?_⟩
          exact ⟨rfl, Le.sub trivial ⟨rfl, rfl, rfl, rfl, rfl, rfl, rfl, rfl, by rw [← e1 hz]; rfl, trivial⟩⟩
        · have hz : zNeeds s (pce (wid s) a l k) = false := by
            unfold zNeeds
            rw [hn3, Bool.and_false, Bool.and_false]
          exact ⟨rfl, Le.sub trivial ⟨rfl, rfl, rfl, rfl, rfl, rfl, rfl, rfl, by rw [e0 hz]; rfl, trivial⟩⟩
      · have hn2 : (s.t.getD (pce (wid s) a l k).c s0).1 = 2 := by
          have hn2 : (!decide ((s.t.getD (pce (wid s) a l k).c s0).1 = 2)) = false := hn2
          simpa using hn2
        have hz : zNeeds s (pce (wid s) a l k) = false := by
          unfold zNeeds
          rw [decide_eq_false (fun h => h hn2), Bool.false_and, Bool.and_false]
        exact ⟨rfl, Le.sub trivial ⟨rfl, rfl, rfl, rfl, rfl, rfl, rfl, rfl, by rw [e0 hz]; rfl, trivial⟩⟩
    · have hn : isWhole s (pce (wid s) a l k) = true := by simpa using hn
      have hz : zNeeds s (pce (wid s) a l k) = false := by
        unfold zNeeds
        rw [hn]
        rfl
      exact ⟨rfl, Le.sub trivial ⟨rfl, rfl, rfl, rfl, rfl, rfl, rfl, rfl, by rw [e0 hz]; rfl, trivial⟩⟩
  · intro yl J hlift hy
    exact pieces_it yl (wid s) a l hW (by omega) (by omega) J (fun k => hlift _ _ _ k k (Fn.more [(9000, .dep 1001 R), (4, .cells [.ptr 1001 0]), (7, .cells [.d (.fn (109, [b1, b2]))]), (10, .cells [.clo 113 [.p 4 0]]), (11, .cells [.d (.int .i64 (zdK s a l k : Int))])] (ibytes_fn s hO.bits) rfl rfl) rfl rfl) (fun k hk => hy k _ (k + 1) ⟨hk, rfl, rfl⟩)
  · have hz : zeros s.l ≤ 512 := Nat.le_trans (zeros_le _) hO.ll
    show TrQ _ _ _ _ _ _ _
    refine TrQ.go tblOK (drawOK tblOK) [12,18] (by kernel_rfl) (Le.refl _ _) ?_
    refine ⟨_, _, _, _, ifree_fn s (by have := hO.ll; omega), ⟨rfl, rfl, rfl, rfl, trivial⟩, rfl, ?_⟩
    refine ⟨rfl, ?_⟩
    refine ⟨fun h => ?_, fun h => ?_⟩
    · have h : ((zeros s.l : Nat) : Int) < ((zdK s a l (pcN (wid s) a l) : Nat) : Int) := of_decide_eq_true h
      obtain ⟨rfl, rfl⟩ := hno (by omega)
      exact ⟨_, _, _, Le.refl _ _, rfl, rfl, ⟨rfl, rfl, rfl, rfl, rfl, trivial⟩, rfl⟩
    have h : ¬ ((zeros s.l : Nat) : Int) < ((zdK s a l (pcN (wid s) a l) : Nat) : Int) := of_decide_eq_false h
    have hnd : zdK s a l (pcN (wid s) a l) ≤ zeros s.l := by omega
    obtain ⟨rfl, rfl⟩ := hyes hnd
    have hOK := hOK hnd
    have hset := hset hnd
    have hput := hput hnd
    show TrQ _ _ _ _ _ _ _
    refine TrQ.go tblOK (drawOK tblOK) [18] (by kernel_rfl) (Le.sub (K' := izKI2 a l) (B' := izX0 s R b1 b2) ⟨rfl, rfl, rfl, rfl, rfl, trivial⟩ ⟨rfl, rfl, rfl, rfl, rfl, rfl, rfl, rfl, trivial⟩) ?_
    refine ⟨_, _, _, _, ipieces_fn s a l, ⟨rfl, rfl, rfl, rfl, trivial⟩, rfl, ?_⟩
    show TrQ _ _ _ _ _ _ _
    refine TrQ.le (Le.sub (K' := (52, .c (.one (.clo 118 [.p 2001 0, .p 2002 0, .p 2003 0]))) :: izKI2 a l) (B' := pbB a l ++ izX0 s R b1 b2) ⟨rfl, rfl, rfl, rfl, rfl, rfl, trivial⟩ ⟨rfl, rfl, rfl, rfl, rfl, rfl, rfl, rfl, rfl, rfl, rfl, trivial⟩) ?_
    refine TrQ.range tblOK [15,16,17] (pl := [53]) rfl (by kernel_rfl) (by kernel_rfl) (by kernel_rfl) (by kernel_rfl) [1001, 1002, 1003, 1004, 9000, 4, 7, 10] _ (izKI2 a l) (pbB a l) (fun k : Nat => izX0 (izrK s a l y k) R b1 b2) 1001 0 (pcN (wid s) a l) (fun k vs k' => k < pcN (wid s) a l ∧ vs = [vPc (pce (wid s) a l k)] ∧ k' = k + 1) rfl (by exact ⟨rfl, rfl, rfl, rfl, rfl, trivial⟩) rfl rfl ?_ ?_ ?_
    · rintro k vs k' ⟨hk, rfl, rfl⟩
      obtain ⟨hc, hkN⟩ := pce_c hO hall hk
      obtain ⟨p1, p2, p3, p4⟩ := pce_ok hW hk
      obtain ⟨o1, o2, o3⟩ := hOK k (Nat.le_of_lt hk)
      have hset := hset k hk
      have hput := hput k hk
      have ew : wid (izrK s a l y k) = wid s := congrArg (fun b => 16 * 2 ^ b) o2
      have hwh := zwhole_fn (izrK s a l y k) o1.bits (pce (wid s) a l k) p1 (by omega)
      rw [show isWhole (izrK s a l y k) (pce (wid s) a l k) = isWhole s (pce (wid s) a l k) by unfold isWhole; rw [ew]] at hwh
      have ew' : isWhole s (pce (wid s) a l k) = false → isWhole (izrK s a l y k) (pce (wid s) a l k) = false := fun h => by
        unfold isWhole
        rw [ew]
        exact h
      have estep : izrK s a l y (k + 1) = zpS (izrK s a l y k) (pce (wid s) a l k) (y (pce (wid s) a l k).c) := rfl
      refine ⟨rfl, rfl, ?_⟩
      refine ⟨rfl, ?_⟩
      refine ⟨rfl, ?_⟩
      refine ⟨_, _, _, _, hwh, ⟨rfl, rfl, rfl, rfl, rfl, trivial⟩, rfl, ?_⟩
      refine ⟨fun hn => ?_, fun hn => ?_⟩
      · have hset := hset hn
        show TrQ _ _ _ _ _ _ _
        refine TrQ.go tblOK (drawOK tblOK) [] (by kernel_rfl) (Le.sub (K' := [(4, vP 4), (13, vP 13)]) (B' := (13, .cells (pcL (pce (wid s) a l k))) :: izX0 (izrK s a l y k) R b1 b2) ⟨rfl, rfl, trivial⟩ ⟨rfl, rfl, rfl, rfl, rfl, rfl, rfl, rfl, rfl, trivial⟩) ?_
        refine ⟨_, _, _, _, Fn.arg hset ⟨rfl, rfl, ⟨rfl, rfl, rfl, trivial⟩, trivial⟩, ⟨rfl, rfl, rfl, rfl, trivial⟩, rfl, ?_⟩
        exact ⟨rfl, Le.sub trivial ⟨rfl, rfl, rfl, rfl, rfl, rfl, rfl, rfl, trivial⟩⟩
      · show TrQ _ _ _ _ _ _ _
        refine TrQ.go tblOK (drawOK tblOK) [17] (by kernel_rfl) (Le.sub (K' := [(4, vP 4), (7, vP 7), (13, vP 13)]) (B' := (13, .cells (pcL (pce (wid s) a l k))) :: izX0 (izrK s a l y k) R b1 b2) ⟨rfl, rfl, rfl, trivial⟩ ⟨rfl, rfl, rfl, rfl, rfl, rfl, rfl, rfl, rfl, trivial⟩) ?_
        refine ⟨_, _, _, _, ikindD_fn (izrK s a l y k) o1.tl _ (by rw [o3]; exact hc), ⟨rfl, rfl, rfl, rfl, trivial⟩, rfl, ?_⟩
        refine ⟨fun hn2 => ?_, fun hn2 => ?_⟩
        · have hn2 : ¬ ((izrK s a l y k).t.getD (pce (wid s) a l k).c s0).1 = 2 := by
            have hn2 : (!decide (((izrK s a l y k).t.getD (pce (wid s) a l k).c s0).1 = 2)) = true := hn2
            simpa using hn2
          have hput := hput hn hn2
          have m4 : (-9223372036854775808 : Int) ≤ ((pce (wid s) a l k).b : Int) - ((pce (wid s) a l k).a : Int) ∧ ((pce (wid s) a l k).b : Int) - ((pce (wid s) a l k).a : Int) ≤ 9223372036854775807 := by omega
          have m5 : ((pce (wid s) a l k).b : Int) - ((pce (wid s) a l k).a : Int) = ((pce (wid s) a l k).b : Int) - ((pce (wid s) a l k).a : Int) ∧ (0 : Int) ≤ ((pce (wid s) a l k).b : Int) - ((pce (wid s) a l k).a : Int) ∧ ((pce (wid s) a l k).b : Int) - ((pce (wid s) a l k).a : Int) ≤ 4294967296 := by omega
          show TrQ _ _ _ _ _ _ _
          refine TrQ.go tblOK (drawOK tblOK) [] (by kernel_rfl) (Le.sub (K' := [(4, vP 4), (7, vP 7), (13, vP 13)]) (B' := (13, .cells (pcL (pce (wid s) a l k))) :: izX0 (izrK s a l y k) R b1 b2) ⟨rfl, rfl, rfl, trivial⟩ ⟨rfl, rfl, rfl, rfl, rfl, rfl, rfl, rfl, rfl, trivial⟩) ?_
          refine ⟨m4, m5, rfl, ?_⟩
          have hx : zerB ((pce (wid s) a l k).b - (pce (wid s) a l k).a) = List.replicate (((pce (wid s) a l k).b : Int) - ((pce (wid s) a l k).a : Int)).toNat (0 : UInt8) := by
            rw [show (((pce (wid s) a l k).b : Int) - ((pce (wid s) a l k).a : Int)).toNat = (pce (wid s) a l k).b - (pce (wid s) a l k).a by omega]
          rw [hx] at hput
          refine ⟨_, _, _, _, Fn.own (d := 76) (args := [vP 1001, vPc (pce (wid s) a l k), vOwn 76, vFn b1 b2]) (e := 5) (u := .u8) (xs := List.replicate (((pce (wid s) a l k).b : Int) - ((pce (wid s) a l k).a : Int)).toNat (0 : UInt8)) hput rfl, ⟨rfl, rfl, rfl, rfl, rfl, rfl, trivial⟩, rfl, ?_⟩
          refine ⟨rfl, ?_⟩
          exact ⟨rfl, Le.sub trivial ⟨rfl, rfl, rfl, rfl, rfl, rfl, rfl, rfl, trivial⟩⟩
        · have hn2 : ((izrK s a l y k).t.getD (pce (wid s) a l k).c s0).1 = 2 := by
            have hn2 : (!decide (((izrK s a l y k).t.getD (pce (wid s) a l k).c s0).1 = 2)) = false := hn2
            simpa using hn2
          have e : izrK s a l y (k + 1) = izrK s a l y k := by
            rw [estep]
            unfold zpS
            rw [ew' hn, if_neg (by decide), if_pos hn2]
          rw [e]
          exact ⟨rfl, Le.sub trivial ⟨rfl, rfl, rfl, rfl, rfl, rfl, rfl, rfl, trivial⟩⟩
    · intro yl J hlift hy
      have h := pieces_it yl (wid s) a l hW (by omega) (by omega) (fun k => J (min k (pcN (wid s) a l))) (fun k => hlift _ _ _ (min k (pcN (wid s) a l)) (min k (pcN (wid s) a l)) (by
        obtain ⟨o1, hb, o3⟩ := hOK (min k (pcN (wid s) a l)) (Nat.min_le_right _ _)
        have h2 := ibytes_fn (izrK s a l y (min k (pcN (wid s) a l))) (by rw [hb]; exact hO.bits)
        rw [show wid (izrK s a l y (min k (pcN (wid s) a l))) = wid s from congrArg (fun b => 16 * 2 ^ b) hb] at h2
        exact Fn.more [(9000, .dep 1001 R), (4, .cells [.ptr 1001 0]), (7, .cells [.d (.fn (109, [b1, b2]))]), (10, .cells [.clo 113 [.p 4 0]])] h2 rfl rfl) rfl rfl) (fun k hk => by
        have h := hy k _ (k + 1) ⟨hk, rfl, rfl⟩
        rw [Nat.min_eq_left (by omega), Nat.min_eq_left (by omega)]
        exact h)
      simp only [Nat.zero_min, Nat.min_self] at h
      exact h
    · show TrQ _ _ _ _ _ _ _
      refine TrQ.go tblOK (drawOK tblOK) [] (by kernel_rfl) (Le.refl _ _) ?_
      exact ⟨_, _, _, Le.refl _ _, rfl, rfl, ⟨rfl, rfl, rfl, rfl, rfl, trivial⟩, rfl⟩
/-! Images: what put, set leave of an image that nobody broke. No program in sight. -/
theorem zeros_set {l : List Int} {h : Nat} {n m : Int} (hl : l[h]? = some n) : zeros (l.set h m) + (if n = 0 then 1 else 0) = zeros l + (if m = 0 then 1 else 0) := by
  induction l generalizing h with
  | nil => simp at hl
  | cons x l ih =>
    match h with
    | 0 =>
      simp only [List.getElem?_cons_zero, Option.some.injEq] at hl
      subst hl
      simp only [List.set_cons_zero]
      unfold zeros
      rw [List.filter_cons, List.filter_cons]
      by_cases h1 : x = 0 <;> by_cases h2 : m = 0 <;> simp [h1, h2] <;> omega
    | h + 1 =>
      have hl : l[h]? = some n := by simpa using hl
      have := ih hl
      simp only [List.set_cons_succ]
      unfold zeros at *
      rw [List.filter_cons, List.filter_cons]
      by_cases h1 : x = 0 <;> simp [h1] <;> omega
theorem laid_len {xs ys : List UInt8} {a n : Nat} (h1 : a + n ≤ xs.length) (h2 : ys.length = n) : (laid xs a n ys).length = xs.length := by
  unfold laid
  rw [List.length_append, List.length_append, List.length_take, List.length_take, List.length_drop]
  omega
/-- What put leaves. -/
structure Put (s s' : ImS) (p : Pce) (bs y : List UInt8) : Prop where
  ok : ImOK s'
  bits : s'.bits = s.bits
  tl : s'.t.length = s.t.length
  ll : s'.l.length = s.l.length
  far : ∀ c, c ≠ p.c → s'.t[c]? = s.t[c]? ∧ ∀ z, clus s' c z = clus s c z
  there : ∀ z, clus s' p.c z = laid (clus s p.c (some y)) p.a (p.b - p.a) bs
  dat : iNeeds s' p.c = false
  zer : zeros s'.l + (if iNeeds s p.c = true then 1 else 0) = zeros s.l
theorem clus_of {s : ImS} {c : Nat} {h : Int} {xs : List UInt8} (h1 : s.t[c]? = some ((1 : Int), h, true)) (h2 : s.f h = some xs) (z : Option (List UInt8)) : clus s c z = xs := by
  unfold clus
  rw [h1]
  simp only [if_pos, h2, Option.getD_some]
theorem clus_congr {s s' : ImS} {c : Nat} (hb : s'.bits = s.bits) (ht : s'.t[c]? = s.t[c]?) (hf : ∀ h, s.t[c]? = some ((1 : Int), h, true) → s'.f h = s.f h) (hO : ImOK s) (z : Option (List UInt8)) : clus s' c z = clus s c z := by
  have hz : zer s' = zer s := by unfold zer wid; rw [hb]
  have hw : wid s' = wid s := by unfold wid; rw [hb]
  unfold clus
  rw [ht]
  cases e : s.t[c]? with
  | none => rfl
  | some q =>
    simp only
    rcases hO.slot c q e with h | h | ⟨h, e2, _⟩
    · rw [h, hz, hw]; rfl
    · rw [h, hz]; rfl
    · rw [e2] at e
      rw [e2, hf _ e, hz, hw]
theorem needs_of {s : ImS} {c : Nat} {h : Int} (h1 : s.t[c]? = some ((1 : Int), h, true)) : iNeeds s c = false := by
  unfold iNeeds slWr
  rw [getD_of h1]
  rfl
theorem iown_rest {s : ImS} (hO : ImOK s) {c : Nat} (hc : c < s.t.length) (y : List UInt8) (hz : iNeeds s c = true → 0 < zeros s.l) :
    (iown s c y).bits = s.bits ∧ (iown s c y).l.length = s.l.length ∧ (∀ d, d ≠ c → (iown s c y).t[d]? = s.t[d]? ∧ ∀ h, s.t[d]? = some ((1 : Int), h, true) → (iown s c y).f h = s.f h) ∧ zeros (iown s c y).l + (if iNeeds s c = true then 1 else 0) = zeros s.l := by
  unfold iown
  by_cases hn : iNeeds s c = true
  · rw [if_pos hn, if_pos hn]
    obtain ⟨z1, z2⟩ := ifree_spec (hz hn)
    refine ⟨rfl, List.length_set, fun d hd => ⟨List.getElem?_set_ne (Ne.symm hd), fun h hh => ?_⟩, ?_⟩
    · show (if h = (ifree s.l : Int) then _ else s.f h) = s.f h
      rw [if_neg]
      intro e
      rcases hO.slot d _ hh with e2 | e2 | ⟨h', e2, h3, _⟩
      · cases e2
      · cases e2
      · have : h = (h' : Int) := by injection e2 with _ e2; injection e2
        have : h' = ifree s.l := by omega
        rw [this, z1] at h3
        cases h3
    · have := zeros_set (m := 1) z1
      simpa using this
  · rw [if_neg hn, if_neg hn]
    exact ⟨rfl, rfl, fun d _ => ⟨rfl, fun _ _ => rfl⟩, rfl⟩
theorem iput_law {s : ImS} (hO : ImOK s) {p : Pce} (hc : p.c < s.t.length) {bs y : List UInt8} (h1 : p.a ≤ p.b) (h2 : p.b ≤ wid s) (h3 : bs.length = p.b - p.a) (hz : iNeeds s p.c = true → 0 < zeros s.l) : Put s (iput s p bs y) p bs y := by
  obtain ⟨o1, o2, o3, h, o4, o5⟩ := iown_ok hO hc y hz
  obtain ⟨r1, r2, r3, r4⟩ := iown_rest hO hc y hz
  have hcl := clus_len hO hc (some y)
  unfold iput
  generalize iown s p.c y = s' at *
  generalize hxs : clus s p.c (some y) = xs at *
  have hgd := getD_of o4
  have e : iputS s' p bs = { s' with f := fset s'.f (h : Int) (laid xs p.a (p.b - p.a) bs) } := by
    unfold iputS
    rw [hgd]
    simp only [o5, Option.getD_some]
  rw [e]
  have hll := laid_len (xs := xs) (ys := bs) (a := p.a) (n := p.b - p.a) (by omega) h3
  have fne : ∀ (d : Nat) (k : Int), d ≠ p.c → s'.t[d]? = some ((1 : Int), k, true) → fset s'.f (h : Int) (laid xs p.a (p.b - p.a) bs) k = s'.f k := fun d k hd hk => by
    unfold fset
    rw [if_neg]
    intro e
    subst e
    exact hd (o1.inj d p.c _ hk o4)
  refine ⟨⟨o1.bits, o1.tl, o1.ll, fun c q hq => ?_, o1.inj, o1.cnt, fun k hk => ?_, o1.used, fset_dom o1.dom (by rw [hll, hcl]; exact wid128 hO.bits)⟩, r1, o3, r2, fun c hcn => ⟨(r3 c hcn).1, fun z => ?_⟩, fun z => by rw [hxs]; exact clus_of (s := { s' with f := fset s'.f (h : Int) (laid xs p.a (p.b - p.a) bs) }) o4 (if_pos rfl) z, needs_of (s := { s' with f := fset s'.f (h : Int) (laid xs p.a (p.b - p.a) bs) }) o4, r4⟩
  · rcases o1.slot c q hq with e | e | ⟨k, e, g1, ys, g2, g3⟩
    · exact .inl e
    · exact .inr (.inl e)
    · refine .inr (.inr ⟨k, e, g1, ?_⟩)
      by_cases hk : (k : Int) = (h : Int)
      · exact ⟨_, if_pos hk, by rw [hll, hcl, ← o2]; rfl⟩
      · exact ⟨ys, (if_neg hk).trans g2, g3⟩
  · show (if (k : Int) = (h : Int) then _ else s'.f k) = none
    rw [if_neg]
    · exact o1.free k hk
    · intro e
      have : k = h := by omega
      subst this
      rcases o1.slot p.c _ o4 with e | e | ⟨j, e, g1, _⟩
      · cases e
      · cases e
      · have : (k : Int) = (j : Int) := by injection e with _ e; injection e
        have : k = j := by omega
        rw [this, g1] at hk
        cases hk
  · refine clus_congr (s := s) (s' := { s' with f := fset s'.f (h : Int) (laid xs p.a (p.b - p.a) bs) }) r1 (r3 c hcn).1 (fun k hk => ?_) hO z
    rw [← (r3 c hcn).2 k hk]
    exact fne c k hcn ((r3 c hcn).1.trans hk)
/-- What set leaves: a slot without data. -/
structure Sett (s s' : ImS) (c : Nat) (q : Slt) : Prop where
  ok : ImOK s'
  bits : s'.bits = s.bits
  tl : s'.t.length = s.t.length
  ll : s'.l.length = s.l.length
  far : ∀ d, d ≠ c → s'.t[d]? = s.t[d]? ∧ ∀ z, clus s' d z = clus s d z
  there : s'.t[c]? = some q
  zer : zeros s.l ≤ zeros s'.l
theorem iset_law {s : ImS} (hO : ImOK s) {c : Nat} (hc : c < s.t.length) {q : Slt} (hq : q = s0 ∨ q = sZr) : Sett s (iset s c q) c q := by
  have hold : s.t[c]? = some (s.t.getD c s0) := by rw [List.getD_eq_getElem?_getD, List.getElem?_eq_getElem hc]; rfl
  have hqn : ∀ h : Int, q ≠ ((1 : Int), h, true) := fun h e => by rcases hq with hq | hq <;> rw [hq] at e <;> cases e
  have hqs : q = s0 ∨ q = ((2 : Int), (0 : Int), false) := hq
  unfold iset iless
  rcases needs_slot hO hc with ⟨_, h⟩ | ⟨_, h, h1, h2, xs, h3, h4⟩
  · have hn : ¬ (s.t.getD c s0).1 = 1 := by rcases h with h | h <;> rw [h] <;> decide
    rw [if_neg hn]
    refine ⟨⟨hO.bits, by show (s.t.set _ _).length ≤ 256; rw [List.length_set]; exact hO.tl, hO.ll, fun d r hr => ?_, fun d e k hd he => ?_, hO.cnt, hO.free, fun k hk => ?_, hO.dom⟩, rfl, List.length_set, rfl, fun d hd => ⟨List.getElem?_set_ne (Ne.symm hd), fun z => clus_congr (s := s) (s' := { s with t := s.t.set c q }) rfl (List.getElem?_set_ne (Ne.symm hd)) (fun _ _ => rfl) hO z⟩, List.getElem?_set_self hc, Nat.le_refl _⟩
    · rw [List.getElem?_set] at hr
      split at hr
      · injection hr with hr
        rw [← hr]
        exact hqs.imp id .inl
      · exact hO.slot d r hr
    · rw [List.getElem?_set] at hd he
      split at hd
      · injection hd with hd; exact absurd hd (hqn k)
      · split at he
        · injection he with he; exact absurd he (hqn k)
        · exact hO.inj d e k hd he
    · obtain ⟨d, hd⟩ := hO.used k hk
      have hne : c ≠ d := fun e => by
        subst e
        rw [hold] at hd
        injection hd with hd
        rw [hd] at hn
        exact hn rfl
      exact ⟨d, (List.getElem?_set_ne hne).trans hd⟩
  · have hg := getD_of h1
    rw [hg, if_pos rfl]
    have hlt : h < s.l.length := (List.getElem?_eq_some_iff.1 h2).1
    have e0 : ((h : Int)).toNat = h := rfl
    simp only [e0]
    have other : ∀ (d k : Nat), d ≠ c → s.t[d]? = some ((1 : Int), (k : Int), true) → k ≠ h := fun d k hd hk e => by
      subst e
      exact hd (hO.inj d c _ hk h1)
    refine ⟨⟨hO.bits, by show (s.t.set _ _).length ≤ 256; rw [List.length_set]; exact hO.tl, by show (s.l.set _ _).length ≤ 512; rw [List.length_set]; exact hO.ll, fun d r hr => ?_, fun d e k hd he => ?_, fun k n hk => ?_, fun k hk => ?_, fun k hk => ?_, fun k xs hk => hO.dom k xs (by
      have hk : (if k = (h : Int) then none else s.f k) = some xs := hk
      split at hk
      · cases hk
      · exact hk)⟩, rfl, List.length_set, List.length_set, fun d hd => ⟨List.getElem?_set_ne (Ne.symm hd), fun z => clus_congr (s := s) (s' := { s with t := s.t.set c q, l := s.l.set h 0, f := fdel s.f (h : Int) }) rfl (List.getElem?_set_ne (Ne.symm hd)) (fun k hk => ?_) hO z⟩, List.getElem?_set_self hc, ?_⟩
    · rw [List.getElem?_set] at hr
      split at hr
      · injection hr with hr
        rw [← hr]
        exact hqs.imp id .inl
      · rename_i hne
        rcases hO.slot d r hr with e | e | ⟨k, e, g1, ys, g2, g3⟩
        · exact .inl e
        · exact .inr (.inl e)
        · have hk := other d k (Ne.symm hne) (e ▸ hr)
          exact .inr (.inr ⟨k, e, by show (s.l.set h 0)[k]? = some 1; rw [List.getElem?_set_ne (Ne.symm hk)]; exact g1, ys, by show (if (k : Int) = (h : Int) then none else s.f k) = some ys; rw [if_neg (by omega)]; exact g2, g3⟩)
    · rw [List.getElem?_set] at hd he
      split at hd
      · injection hd with hd; exact absurd hd (hqn k)
      · split at he
        · injection he with he; exact absurd he (hqn k)
        · exact hO.inj d e k hd he
    · rw [List.getElem?_set] at hk
      split at hk
      · injection hk with hk; exact .inl hk.symm
      · exact hO.cnt k n hk
    · show (if (k : Int) = (h : Int) then none else s.f k) = none
      by_cases e : k = h
      · rw [if_pos (by omega)]
      · rw [if_neg (by omega)]
        rw [List.getElem?_set_ne (fun e2 => e e2.symm)] at hk
        exact hO.free k hk
    · by_cases e : k = h
      · subst e
        rw [List.getElem?_set_self hlt] at hk
        cases hk
      · rw [List.getElem?_set_ne (fun e2 => e e2.symm)] at hk
        obtain ⟨d, hd⟩ := hO.used k hk
        have hne : c ≠ d := fun e2 => by
          subst e2
          rw [h1] at hd
          injection hd with hd
          have : (h : Int) = (k : Int) := by injection hd with _ hd; injection hd
          omega
        exact ⟨d, (List.getElem?_set_ne hne).trans hd⟩
    · rcases hO.slot d _ hk with e | e | ⟨j, e, _⟩
      · cases e
      · cases e
      · have hj : k = (j : Int) := by injection e with _ e; injection e
        subst hj
        have := other d j hd hk
        show (if (j : Int) = (h : Int) then none else s.f j) = s.f j
        rw [if_neg (by omega)]
    · have := zeros_set (m := 0) h2
      simp at this
      show zeros s.l ≤ zeros (s.l.set h 0)
      omega
/-! Images: Write, Zero, Discard: what they leave. -/
theorem needs_congr {s s' : ImS} {c : Nat} (h : s'.t[c]? = s.t[c]?) : iNeeds s' c = iNeeds s c := by
  unfold iNeeds
  rw [List.getD_eq_getElem?_getD, List.getD_eq_getElem?_getD, h]
/-- Two images of one form. -/
structure Like (s s' : ImS) : Prop where
  ok : ImOK s'
  bits : s'.bits = s.bits
  tl : s'.t.length = s.t.length
  ll : s'.l.length = s.l.length
theorem Like.refl {s : ImS} (h : ImOK s) : Like s s := ⟨h, rfl, rfl, rfl⟩
theorem Like.trans {s s' s'' : ImS} (h : Like s s') (k : Like s' s'') : Like s s'' := ⟨k.ok, k.bits.trans h.bits, k.tl.trans h.tl, k.ll.trans h.ll⟩
theorem Like.wid {s s' : ImS} (h : Like s s') : wid s' = wid s := congrArg (fun b => 16 * 2 ^ b) h.bits
theorem Put.like {s s' : ImS} {p : Pce} {bs y : List UInt8} (h : Put s s' p bs y) : Like s s' := ⟨h.ok, h.bits, h.tl, h.ll⟩
theorem Sett.like {s s' : ImS} {c : Nat} {q : Slt} (h : Sett s s' c q) : Like s s' := ⟨h.ok, h.bits, h.tl, h.ll⟩
/-- As it was, in a cluster. -/
def Same (s s' : ImS) (c : Nat) : Prop := s'.t[c]? = s.t[c]? ∧ ∀ z, clus s' c z = clus s c z
theorem Same.refl (s : ImS) (c : Nat) : Same s s c := ⟨rfl, fun _ => rfl⟩
theorem Same.trans {s s' s'' : ImS} {c : Nat} (h : Same s s' c) (k : Same s' s'' c) : Same s s'' c := ⟨k.1.trans h.1, fun z => (k.2 z).trans (h.2 z)⟩
/-- What is below an image's Holes, whatever is written to it. -/
def Bel (s : ImS) (R : Pl → Ob) (b1 b2 : Nat) (y : Nat → List UInt8) : Prop := ∀ s', Like s s' → ∀ (c : Nat) (h : c < s'.t.length), (s'.t[c]).1 = 0 → BelowI s' R b1 b2 c (y c)
theorem ndK_mono (s : ImS) (a l : Nat) {j k : Nat} (h : j ≤ k) : ndK s a l j ≤ ndK s a l k := by
  induction k with
  | zero => have : j = 0 := by omega
            rw [this]; exact Nat.le_refl _
  | succ k ih =>
    by_cases e : j = k + 1
    · rw [e]; exact Nat.le_refl _
    · have := ih (by omega)
      show ndK s a l j ≤ ndK s a l k + _
      omega
theorem bsP_len {bs : List UInt8} {p : Pce} (h1 : p.a ≤ p.b) (h2 : p.at_ + (p.b - p.a) ≤ bs.length) : (bsP bs p).length = p.b - p.a := by
  unfold bsP
  rw [List.length_drop, List.length_take]
  omega
structure WrI (s : ImS) (a l : Nat) (bs : List UInt8) (y : Nat → List UInt8) (k : Nat) : Prop where
  like : Like s (iwrK s a l bs y k)
  zer : zeros (iwrK s a l bs y k).l + ndK s a l k = zeros s.l
  far : ∀ c, (c < 16 * a / wid s ∨ 16 * a / wid s + k ≤ c) → Same s (iwrK s a l bs y k) c
  done : ∀ j, j < k → iNeeds (iwrK s a l bs y k) (16 * a / wid s + j) = false ∧ ∀ z, clus (iwrK s a l bs y k) (16 * a / wid s + j) z = laid (clus s (16 * a / wid s + j) (some (y (16 * a / wid s + j)))) (pce (wid s) a l j).a ((pce (wid s) a l j).b - (pce (wid s) a l j).a) (bsP bs (pce (wid s) a l j))
theorem wrStep {s : ImS} (hO : ImOK s) {a l : Nat} {bs : List UInt8} (hbl : bs.length = 16 * l) (hall : a + l ≤ iall s) {y : Nat → List UInt8} (hnd : ndK s a l (pcN (wid s) a l) ≤ zeros s.l) {k : Nat} (h : WrI s a l bs y k) (hk : k < pcN (wid s) a l) : Put (iwrK s a l bs y k) (iwrK s a l bs y (k + 1)) (pce (wid s) a l k) (bsP bs (pce (wid s) a l k)) (y (pce (wid s) a l k).c) ∧ (iNeeds (iwrK s a l bs y k) (pce (wid s) a l k).c = true → 0 < zeros (iwrK s a l bs y k).l) := by
  have hW := wid_isW hO.bits
  obtain ⟨p1, p2, p3, p4⟩ := pce_ok hW hk
  obtain ⟨hc, _⟩ := pce_c hO hall hk
  have hsame := h.far (16 * a / wid s + k) (.inr (Nat.le_refl _))
  have hz : iNeeds (iwrK s a l bs y k) (pce (wid s) a l k).c = true → 0 < zeros (iwrK s a l bs y k).l := fun hn => by
    have e3 : iNeeds (iwrK s a l bs y k) (pce (wid s) a l k).c = iNeeds s (pce (wid s) a l k).c := needs_congr hsame.1
    rw [e3] at hn
    have h1 := ndK_mono s a l (show k + 1 ≤ pcN (wid s) a l from hk)
    have h2 : ndK s a l (k + 1) = ndK s a l k + 1 := by
      show ndK s a l k + _ = _
      rw [if_pos hn]
    have := h.zer
    omega
  exact ⟨iput_law h.like.ok (by rw [h.like.tl]; exact hc) p1 (by rw [h.like.wid]; exact p2) (bsP_len p1 (by omega)) hz, hz⟩
theorem wrI {s : ImS} (hO : ImOK s) {a l : Nat} {bs : List UInt8} (hbl : bs.length = 16 * l) (hall : a + l ≤ iall s) (y : Nat → List UInt8) (hnd : ndK s a l (pcN (wid s) a l) ≤ zeros s.l) : ∀ k, k ≤ pcN (wid s) a l → WrI s a l bs y k ∧ (k < pcN (wid s) a l → Put (iwrK s a l bs y k) (iwrK s a l bs y (k + 1)) (pce (wid s) a l k) (bsP bs (pce (wid s) a l k)) (y (pce (wid s) a l k).c) ∧ (iNeeds (iwrK s a l bs y k) (pce (wid s) a l k).c = true → 0 < zeros (iwrK s a l bs y k).l))
  | 0, hk => by
    have h0 : WrI s a l bs y 0 := ⟨Like.refl hO, rfl, fun c _ => Same.refl s c, fun j hj => absurd hj (by omega)⟩
    exact ⟨h0, fun hk => wrStep hO hbl hall hnd h0 hk⟩
  | k + 1, hk => by
    obtain ⟨h, hs⟩ := wrI hO hbl hall y hnd k (by omega)
    have hk2 : k < pcN (wid s) a l := by omega
    obtain ⟨hp, _⟩ := hs hk2
    have hpc : (pce (wid s) a l k).c = 16 * a / wid s + k := rfl
    have hsame := h.far (16 * a / wid s + k) (.inr (Nat.le_refl _))
    have h1 : WrI s a l bs y (k + 1) := by
      refine ⟨h.like.trans hp.like, ?_, fun c hc => ?_, fun j hj => ?_⟩
      · have e1 := hp.zer
        have e2 := h.zer
        have e3 : iNeeds (iwrK s a l bs y k) (pce (wid s) a l k).c = iNeeds s (pce (wid s) a l k).c := needs_congr hsame.1
        rw [e3] at e1
        show zeros _ + (ndK s a l k + _) = _
        omega
      · exact (h.far c (hc.imp id fun h => by omega)).trans (hp.far c (by rw [hpc]; omega))
      · by_cases e : j = k
        · subst e
          refine ⟨hp.dat, fun z => ?_⟩
          have := hp.there z
          rw [hpc] at this
          rw [this, hsame.2]
        · obtain ⟨g1, g2⟩ := h.done j (by omega)
          have hf := hp.far (16 * a / wid s + j) (by rw [hpc]; omega)
          exact ⟨(needs_congr hf.1).trans g1, fun z => (hf.2 z).trans (g2 z)⟩
    exact ⟨h1, fun hk => wrStep hO hbl hall hnd h1 hk⟩
def iwE (s : ImS) (a l : Nat) : Int := if ndK s a l (pcN (wid s) a l) ≤ zeros s.l then 0 else 120
def iwS (s : ImS) (a l : Nat) (bs : List UInt8) (y : Nat → List UInt8) : ImS := if ndK s a l (pcN (wid s) a l) ≤ zeros s.l then iwrK s a l bs y (pcN (wid s) a l) else s
theorem iwrite_fn (s : ImS) (R : Pl → Ob) (b1 b2 : Nat) (hO : ImOK s) (a l : Nat) (bs : List UInt8) (hbl : bs.length = 16 * l) (h0 : iIns s a l = 0) (y : Nat → List UInt8) (hB : Bel s R b1 b2 y) :
    Fn Tryz.prog 80 [vP 1001, vI (a : Int), vL .u8 bs, vFn b1 b2] (imR s R) [] (vI (iwE s a l)) (imR (iwS s a l bs y) R) := by
  have hall := iIns_all h0
  refine iwrite_in s R b1 b2 hO a l bs hbl h0 y _ _ (fun h => ⟨if_neg (by omega), if_neg (by omega)⟩) (fun h => ⟨if_pos h, if_pos h⟩) (fun hnd k hk => ?_) (fun hnd k hk => (wrI hO hbl hall y hnd k hk).1.like.bits)
  obtain ⟨h, hs⟩ := wrI hO hbl hall y hnd k (Nat.le_of_lt hk)
  obtain ⟨_, hz⟩ := hs hk
  obtain ⟨p1, p2, p3, p4⟩ := pce_ok (wid_isW hO.bits) hk
  obtain ⟨hc, _⟩ := pce_c hO hall hk
  have hc2 : (pce (wid s) a l k).c < (iwrK s a l bs y k).t.length := by rw [h.like.tl]; exact hc
  exact iput_fn (iwrK s a l bs y k) R b1 b2 h.like.ok (pce (wid s) a l k) hc2 (bsP bs (pce (wid s) a l k)) p1 (by rw [h.like.wid]; exact p2) (bsP_len p1 (by omega)) (y (pce (wid s) a l k).c) (fun e => hB _ h.like _ hc2 e) hz
theorem iwS_like {s : ImS} (hO : ImOK s) {a l : Nat} {bs : List UInt8} (hbl : bs.length = 16 * l) (h0 : iIns s a l = 0) (y : Nat → List UInt8) : Like s (iwS s a l bs y) := by
  unfold iwS
  split
  · rename_i h; exact (wrI hO hbl (iIns_all h0) y h _ (Nat.le_refl _)).1.like
  · exact Like.refl hO
/-! ### Discard -/
structure DsI (s : ImS) (a l : Nat) (k : Nat) : Prop where
  like : Like s (idsK s a l k)
  far : ∀ c, (c < 16 * a / wid s ∨ 16 * a / wid s + k ≤ c) → Same s (idsK s a l k) c
  done : ∀ j, j < k → if (pce (wid s) a l j).b - (pce (wid s) a l j).a = wid s then (idsK s a l k).t[16 * a / wid s + j]? = some s0 else Same s (idsK s a l k) (16 * a / wid s + j)
theorem dsI {s : ImS} (hO : ImOK s) {a l : Nat} (hall : a + l ≤ iall s) : ∀ k, k ≤ pcN (wid s) a l → DsI s a l k
  | 0, _ => ⟨Like.refl hO, fun c _ => Same.refl s c, fun j hj => absurd hj (by omega)⟩
  | k + 1, hk => by
    have h := dsI hO hall k (by omega)
    have hk2 : k < pcN (wid s) a l := by omega
    obtain ⟨hc, _⟩ := pce_c hO hall hk2
    have hpc : (pce (wid s) a l k).c = 16 * a / wid s + k := rfl
    have hsame := h.far (16 * a / wid s + k) (.inr (Nat.le_refl _))
    by_cases e : (pce (wid s) a l k).b - (pce (wid s) a l k).a = wid s
    · have e1 : idsK s a l (k + 1) = iset (idsK s a l k) (pce (wid s) a l k).c s0 := if_pos e
      have hp := iset_law h.like.ok (c := (pce (wid s) a l k).c) (by rw [h.like.tl]; exact hc) (q := s0) (.inl rfl)
      rw [← e1] at hp
      refine ⟨h.like.trans hp.like, fun c hc => (h.far c (hc.imp id fun h => by omega)).trans (hp.far c (by rw [hpc]; omega)), fun j hj => ?_⟩
      by_cases ej : j = k
      · subst ej
        rw [if_pos e]
        exact hp.there
      · have g := h.done j (by omega)
        have hf := hp.far (16 * a / wid s + j) (by rw [hpc]; omega)
        split
        · rename_i e2
          rw [if_pos e2] at g
          exact hf.1.trans g
        · rename_i e2
          rw [if_neg e2] at g
          exact g.trans hf
    · have e1 : idsK s a l (k + 1) = idsK s a l k := if_neg e
      rw [show DsI s a l (k + 1) ↔ DsI s a l (k + 1) from Iff.rfl]
      refine ⟨by rw [e1]; exact h.like, fun c hc => by rw [e1]; exact h.far c (hc.imp id fun h => by omega), fun j hj => ?_⟩
      rw [e1]
      by_cases ej : j = k
      · subst ej
        rw [if_neg e]
        exact hsame
      · exact h.done j (by omega)
def idsS (s : ImS) (a l : Nat) : ImS := idsK s a l (pcN (wid s) a l)
theorem host_of {s : ImS} (hO : ImOK s) {c : Nat} (hc : c < s.t.length) : (s.t.getD c s0).1 = 1 → ∃ h : Nat, (s.t.getD c s0).2.1 = (h : Int) ∧ s.l[h]? = some 1 := fun h1 => by
  rcases needs_slot hO hc with ⟨_, h⟩ | ⟨_, h, g1, g2, _⟩
  · rcases h with h | h <;> rw [h] at h1 <;> cases h1
  · exact ⟨h, by rw [getD_of g1], g2⟩
theorem idiscard_fn (s : ImS) (hO : ImOK s) (a l : Nat) (h0 : iIns s a l = 0) : Fn Tryz.prog 84 [vP 1001, vI (a : Int), vI (l : Int)] (imB s) [] (vI 0) (imB (idsS s a l)) := by
  have hall := iIns_all h0
  refine idiscard_in s hO a l h0 (fun k hk => ?_) (fun k hk => (dsI hO hall k hk).like.bits)
  have h := dsI hO hall k (Nat.le_of_lt hk)
  obtain ⟨hc, _⟩ := pce_c hO hall hk
  have hc2 : (pce (wid s) a l k).c < (idsK s a l k).t.length := by rw [h.like.tl]; exact hc
  exact iset_fn (idsK s a l k) h.like.ok.tl _ hc2 s0 ⟨by decide, by decide⟩ rfl (host_of h.like.ok hc2)
/-! ### Zero -/
structure ZrI (s : ImS) (a l : Nat) (y : Nat → List UInt8) (k : Nat) : Prop where
  like : Like s (izrK s a l y k)
  zer : zeros s.l ≤ zeros (izrK s a l y k).l + zdK s a l k
  far : ∀ c, (c < 16 * a / wid s ∨ 16 * a / wid s + k ≤ c) → Same s (izrK s a l y k) c
theorem zdK_mono (s : ImS) (a l : Nat) {j k : Nat} (h : j ≤ k) : zdK s a l j ≤ zdK s a l k := by
  induction k with
  | zero => have : j = 0 := by omega
            rw [this]; exact Nat.le_refl _
  | succ k ih =>
    by_cases e : j = k + 1
    · rw [e]; exact Nat.le_refl _
    · have := ih (by omega)
      show zdK s a l j ≤ zdK s a l k + _
      omega
theorem whole_like {s s' : ImS} (h : Like s s') (p : Pce) : isWhole s' p = isWhole s p := by unfold isWhole; rw [h.wid]
theorem zrHz {s : ImS} {a l : Nat} {y : Nat → List UInt8} (hnd : zdK s a l (pcN (wid s) a l) ≤ zeros s.l) {k : Nat} (h : ZrI s a l y k) (hk : k < pcN (wid s) a l) (hw : isWhole s (pce (wid s) a l k) = false) (h2 : ((izrK s a l y k).t.getD (pce (wid s) a l k).c s0).1 ≠ 2) :
    iNeeds (izrK s a l y k) (pce (wid s) a l k).c = true → 0 < zeros (izrK s a l y k).l := fun hn => by
  have hsame := h.far (16 * a / wid s + k) (.inr (Nat.le_refl _))
  have e3 : iNeeds (izrK s a l y k) (pce (wid s) a l k).c = iNeeds s (pce (wid s) a l k).c := needs_congr hsame.1
  have e4 : (izrK s a l y k).t.getD (pce (wid s) a l k).c s0 = s.t.getD (pce (wid s) a l k).c s0 := by
    rw [List.getD_eq_getElem?_getD, List.getD_eq_getElem?_getD]
    exact congrArg (fun o => o.getD s0) hsame.1
  rw [e3] at hn
  rw [e4] at h2
  have hz : zNeeds s (pce (wid s) a l k) = true := by
    unfold zNeeds
    rw [hw, decide_eq_true h2, hn]
    rfl
  have h1 := zdK_mono s a l (show k + 1 ≤ pcN (wid s) a l from hk)
  have h3 : zdK s a l (k + 1) = zdK s a l k + 1 := by
    show zdK s a l k + _ = _
    rw [if_pos hz]
  have := h.zer
  omega
theorem zrI {s : ImS} (hO : ImOK s) {a l : Nat} (hall : a + l ≤ iall s) (y : Nat → List UInt8) (hnd : zdK s a l (pcN (wid s) a l) ≤ zeros s.l) : ∀ k, k ≤ pcN (wid s) a l → ZrI s a l y k
  | 0, _ => ⟨Like.refl hO, Nat.le_add_right _ _, fun c _ => Same.refl s c⟩
  | k + 1, hk => by
    have h := zrI hO hall y hnd k (by omega)
    have hk2 : k < pcN (wid s) a l := by omega
    obtain ⟨hc, _⟩ := pce_c hO hall hk2
    obtain ⟨p1, p2, p3, p4⟩ := pce_ok (wid_isW hO.bits) hk2
    have hpc : (pce (wid s) a l k).c = 16 * a / wid s + k := rfl
    have hc2 : (pce (wid s) a l k).c < (izrK s a l y k).t.length := by rw [h.like.tl]; exact hc
    have hsame := h.far (16 * a / wid s + k) (.inr (Nat.le_refl _))
    have hzd : zdK s a l (k + 1) = zdK s a l k + (if zNeeds s (pce (wid s) a l k) = true then 1 else 0) := rfl
    have e1 : izrK s a l y (k + 1) = zpS (izrK s a l y k) (pce (wid s) a l k) (y (pce (wid s) a l k).c) := rfl
    unfold zpS at e1
    rw [whole_like h.like] at e1
    by_cases hw : isWhole s (pce (wid s) a l k) = true
    · rw [if_pos hw] at e1
      have hp := iset_law h.like.ok (c := (pce (wid s) a l k).c) hc2 (q := sZr) (.inr rfl)
      rw [← e1] at hp
      refine ⟨h.like.trans hp.like, ?_, fun c hc => (h.far c (hc.imp id fun h => by omega)).trans (hp.far c (by rw [hpc]; omega))⟩
      have := hp.zer
      have := h.zer
      omega
    · have hw : isWhole s (pce (wid s) a l k) = false := by simpa using hw
      rw [hw, if_neg (by decide)] at e1
      by_cases h2 : ((izrK s a l y k).t.getD (pce (wid s) a l k).c s0).1 = 2
      · rw [if_pos h2] at e1
        refine ⟨by rw [e1]; exact h.like, ?_, fun c hc => by rw [e1]; exact h.far c (hc.imp id fun h => by omega)⟩
        rw [e1]
        have := h.zer
        omega
      · rw [if_neg h2] at e1
        have hp := iput_law (y := y (pce (wid s) a l k).c) (bs := zerB ((pce (wid s) a l k).b - (pce (wid s) a l k).a)) h.like.ok hc2 p1 (by rw [h.like.wid]; exact p2) List.length_replicate (zrHz hnd h hk2 hw h2)
        rw [← e1] at hp
        refine ⟨h.like.trans hp.like, ?_, fun c hc => (h.far c (hc.imp id fun h => by omega)).trans (hp.far c (by rw [hpc]; omega))⟩
        have e5 := hp.zer
        have e3 : iNeeds (izrK s a l y k) (pce (wid s) a l k).c = iNeeds s (pce (wid s) a l k).c := needs_congr hsame.1
        have e4 : (izrK s a l y k).t.getD (pce (wid s) a l k).c s0 = s.t.getD (pce (wid s) a l k).c s0 := by
          rw [List.getD_eq_getElem?_getD, List.getD_eq_getElem?_getD]
          exact congrArg (fun o => o.getD s0) hsame.1
        rw [e4] at h2
        have hz : zNeeds s (pce (wid s) a l k) = iNeeds s (pce (wid s) a l k).c := by
          unfold zNeeds
          rw [hw, decide_eq_true h2]
          rfl
        rw [e3, ← hz] at e5
        have := h.zer
        omega
def izE (s : ImS) (a l : Nat) : Int := if zdK s a l (pcN (wid s) a l) ≤ zeros s.l then 0 else 120
def izS (s : ImS) (a l : Nat) (y : Nat → List UInt8) : ImS := if zdK s a l (pcN (wid s) a l) ≤ zeros s.l then izrK s a l y (pcN (wid s) a l) else s
theorem izero_fn (s : ImS) (R : Pl → Ob) (b1 b2 : Nat) (hO : ImOK s) (a l : Nat) (h0 : iIns s a l = 0) (y : Nat → List UInt8) (hB : Bel s R b1 b2 y) :
    Fn Tryz.prog 82 [vP 1001, vI (a : Int), vI (l : Int), vFn b1 b2] (imR s R) [] (vI (izE s a l)) (imR (izS s a l y) R) := by
  have hall := iIns_all h0
  refine izero_in s R b1 b2 hO a l h0 y _ _ (fun h => ⟨if_neg (by omega), if_neg (by omega)⟩) (fun h => ⟨if_pos h, if_pos h⟩) (fun hnd k hk => ?_) (fun hnd k hk hw => ?_) (fun hnd k hk hw h2 => ?_)
  · have h := (zrI hO hall y hnd k hk).like
    exact ⟨h.ok, h.bits, h.tl⟩
  · have h := zrI hO hall y hnd k (Nat.le_of_lt hk)
    obtain ⟨hc, _⟩ := pce_c hO hall hk
    have hc2 : (pce (wid s) a l k).c < (izrK s a l y k).t.length := by rw [h.like.tl]; exact hc
    have e1 : izrK s a l y (k + 1) = iset (izrK s a l y k) (pce (wid s) a l k).c sZr := if_pos ((whole_like h.like _).trans hw)
    rw [e1]
    exact iset_fn (izrK s a l y k) h.like.ok.tl _ hc2 sZr ⟨by decide, by decide⟩ rfl (host_of h.like.ok hc2)
  · have h := zrI hO hall y hnd k (Nat.le_of_lt hk)
    obtain ⟨hc, _⟩ := pce_c hO hall hk
    obtain ⟨p1, p2, p3, p4⟩ := pce_ok (wid_isW hO.bits) hk
    have hc2 : (pce (wid s) a l k).c < (izrK s a l y k).t.length := by rw [h.like.tl]; exact hc
    have e1 : izrK s a l y (k + 1) = iput (izrK s a l y k) (pce (wid s) a l k) (zerB ((pce (wid s) a l k).b - (pce (wid s) a l k).a)) (y (pce (wid s) a l k).c) := by
      show zpS _ _ _ = _
      unfold zpS
      rw [whole_like h.like, hw, if_neg (by decide), if_neg h2]
    rw [e1]
    exact iput_fn (izrK s a l y k) R b1 b2 h.like.ok (pce (wid s) a l k) hc2 _ p1 (by rw [h.like.wid]; exact p2) List.length_replicate _ (fun e => hB _ h.like _ hc2 e) (zrHz hnd h hk hw h2)
theorem izS_like {s : ImS} (hO : ImOK s) {a l : Nat} (h0 : iIns s a l = 0) (y : Nat → List UInt8) : Like s (izS s a l y) := by
  unfold izS
  split
  · rename_i h; exact (zrI hO (iIns_all h0) y h _ (Nat.le_refl _)).like
  · exact Like.refl hO
theorem izero_end (s : ImS) (R : Pl → Ob) (b1 b2 : Nat) (hO : ImOK s) (a l : Int) (h0 : iIns s a l ≠ 0) : Fn Tryz.prog 82 [vP 1001, vI a, vI l, vFn b1 b2] (imR s R) [] (vI (iIns s a l)) (imR s R) := by
  refine Fn.of tblOK [] _ _ _ _ _ Tryz.func82 rfl rfl (by kernel_rfl) (by kernel_rfl) rfl (drawOK tblOK) rfl ?_
  refine ⟨rfl, rfl, ?_⟩
  refine ⟨_, _, _, _, iinside_fn s hO a l, ⟨rfl, rfl, rfl, rfl, trivial⟩, rfl, ?_⟩
  refine ⟨fun _ => ?_, fun h => absurd (show iIns s a l = 0 by have h : (!decide (iIns s a l = 0)) = false := h; simpa using h) h0⟩
  exact ⟨_, _, _, Le.refl _ _, rfl, rfl, ⟨rfl, rfl, rfl, rfl, rfl, trivial⟩, rfl⟩
/-! Images: New, Copy. -/
def iNew (bits size room : Nat) : ImS := ⟨bits, List.replicate size s0, List.replicate room (0 : Int), fnone⟩
theorem iNew_ok {bits size room : Nat} (h1 : bits ≤ 3) (h2 : size ≤ 256) (h3 : room ≤ 512) : ImOK (iNew bits size room) := by
  have ht : ∀ (c : Nat) (q : Slt), (iNew bits size room).t[c]? = some q → q = s0 := fun c q h => by
    have h : (List.replicate size s0)[c]? = some q := h
    rw [List.getElem?_replicate] at h
    split at h
    · injection h with h; exact h.symm
    · cases h
  have hl : ∀ (h : Nat) n, (iNew bits size room).l[h]? = some n → n = 0 := fun h n e => by
    have e : (List.replicate room (0 : Int))[h]? = some n := e
    rw [List.getElem?_replicate] at e
    split at e
    · injection e with e; exact e.symm
    · cases e
  refine ⟨h1, by show (List.replicate size s0).length ≤ 256; rw [List.length_replicate]; exact h2, by show (List.replicate room (0 : Int)).length ≤ 512; rw [List.length_replicate]; exact h3, fun c q hq => .inl (ht c q hq), fun c d h hc hd => ?_, fun h n hn => .inl (hl h n hn), fun h _ => rfl, fun h hh => ?_, fun k xs hk => (by cases hk)⟩
  · have := ht c _ hc; cases this
  · have := hl h _ hh; cases this
def newMay (bits size room : Int) : Bool := decide (0 ≤ size) && decide (size ≤ 256) && (decide (0 ≤ room) && decide (room ≤ 512)) && (decide (0 ≤ bits) && decide (bits ≤ 3))
theorem inew_ok (bits size room : Nat) (h1 : bits ≤ 3) (h2 : size ≤ 256) (h3 : room ≤ 512) : Fn Tryz.prog 45 [vI (bits : Int), vI (size : Int), vI (room : Int)] [] [1001, 1002, 1003, 1004] (.tup [.one (.ptr 1001 0), vErr 0]) (imB (iNew bits size room)) := by
  refine Fn.of tblOK [3] _ _ _ _ _ Tryz.func45 rfl rfl (by kernel_rfl) (by kernel_rfl) rfl (drawOK tblOK) rfl ?_
  refine ⟨_, _, _, _, Fn.ren [(1001, 1002), (1002, 2002)] (tnew_ok size h2), trivial, rfl, ?_⟩
  refine ⟨_, _, _, _, Fn.ren [(1001, 1003), (1002, 2003)] (cnew_ok (room : Int) (by omega) (by omega)), trivial, rfl, ?_⟩
  show TrQ _ _ _ _ _ _ _
  refine TrQ.go tblOK (drawOK tblOK) [] (by kernel_rfl) (Le.sub (K' := [(0, vI (bits : Int)), (8, vP 1002), (9, vI 0), (10, vP 1003), (11, vI 0)]) (B' := [(1002, .obj (tabO (List.replicate size s0))), (1003, .obj (cntO (List.replicate room (0 : Int))))]) ⟨rfl, rfl, rfl, rfl, rfl, trivial⟩ ⟨rfl, rfl, trivial⟩) ?_
  refine ⟨fun h => absurd h (by decide), fun _ => ?_⟩
  refine ⟨fun h => absurd h (by decide), fun _ => ?_⟩
  refine ⟨fun h => ?_, fun h => ?_⟩
  · exfalso
    have h : (bits : Int) < 0 := of_decide_eq_true h
    omega
  refine ⟨fun h => ?_, fun h => ?_⟩
  · exfalso
    have h : (3 : Int) < (bits : Int) := of_decide_eq_true h
    omega
  refine ⟨rfl, ?_⟩
  refine ⟨rfl, ?_⟩
  exact ⟨_, _, _, (Le.ren 41 1001 rfl).trans ((Le.ren 39 1004 rfl).trans (Le.dataEmp 1004 rfl)), rfl, ⟨rfl, rfl, trivial⟩, ⟨rfl, rfl, rfl, rfl, trivial⟩, rfl⟩
theorem iall_bad {bits size room : Int} (h : newMay bits size room = false) : ¬ (0 ≤ size ∧ size ≤ 256) ∨ ¬ (0 ≤ room ∧ room ≤ 512) ∨ ¬ (0 ≤ bits ∧ bits ≤ 3) := by
  unfold newMay at h
  by_cases h1 : 0 ≤ size ∧ size ≤ 256
  · by_cases h2 : 0 ≤ room ∧ room ≤ 512
    · by_cases h3 : 0 ≤ bits ∧ bits ≤ 3
      · rw [decide_eq_true h1.1, decide_eq_true h1.2, decide_eq_true h2.1, decide_eq_true h2.2, decide_eq_true h3.1, decide_eq_true h3.2] at h
        cases h
      · exact .inr (.inr h3)
    · exact .inr (.inl h2)
  · exact .inl h1
theorem inew_bad (bits size room : Int) (h : newMay bits size room = false) : Fn Tryz.prog 45 [vI bits, vI size, vI room] [] [] (.tup [vNilP, vErr 1]) [] := by
  have hb := iall_bad h
  refine Fn.of tblOK [] _ _ _ _ _ Tryz.func45 rfl rfl (by kernel_rfl) (by kernel_rfl) rfl (drawOK tblOK) rfl ?_
  by_cases h1 : 0 ≤ size ∧ size ≤ 256
  · obtain ⟨sn, rfl⟩ : ∃ n : Nat, size = (n : Int) := ⟨size.toNat, by omega⟩
    refine ⟨_, _, _, _, Fn.ren [(1001, 1002), (1002, 2002)] (tnew_ok sn (by omega)), trivial, rfl, ?_⟩
    by_cases h2 : 0 ≤ room ∧ room ≤ 512
    · refine ⟨_, _, _, _, Fn.ren [(1001, 1003), (1002, 2003)] (cnew_ok room (by omega) (by omega)), trivial, rfl, ?_⟩
      refine ⟨fun h => absurd h (by decide), fun _ => ?_⟩
      refine ⟨fun h => absurd h (by decide), fun _ => ?_⟩
      refine ⟨fun _ => ?_, fun h3 => ?_⟩
      · exact ⟨_, _, _, Le.refl _ _, rfl, ⟨rfl, rfl, trivial⟩, trivial, rfl⟩
      · refine ⟨fun _ => ?_, fun h4 => ?_⟩
        · exact ⟨_, _, _, Le.refl _ _, rfl, ⟨rfl, rfl, trivial⟩, trivial, rfl⟩
        · exfalso
          have h3 : ¬ bits < 0 := of_decide_eq_false h3
          have h4 : ¬ (3 : Int) < bits := of_decide_eq_false h4
          omega
    · refine ⟨_, _, _, _, cnew_bad room h2, trivial, rfl, ?_⟩
      refine ⟨fun h => absurd h (by decide), fun _ => ?_⟩
      refine ⟨fun _ => ?_, fun h => absurd h (by decide)⟩
      exact ⟨_, _, _, Le.refl _ _, rfl, ⟨rfl, rfl, trivial⟩, trivial, rfl⟩
  · refine ⟨_, _, _, _, tnew_bad size h1, trivial, rfl, ?_⟩
    by_cases h2 : 0 ≤ room ∧ room ≤ 512
    · refine ⟨_, _, _, _, Fn.ren [(1001, 1003), (1002, 2003)] (cnew_ok room (by omega) (by omega)), trivial, rfl, ?_⟩
      refine ⟨fun _ => ?_, fun h => absurd h (by decide)⟩
      exact ⟨_, _, _, Le.refl _ _, rfl, ⟨rfl, rfl, trivial⟩, trivial, rfl⟩
    · refine ⟨_, _, _, _, cnew_bad room h2, trivial, rfl, ?_⟩
      refine ⟨fun _ => ?_, fun h => absurd h (by decide)⟩
      exact ⟨_, _, _, Le.refl _ _, rfl, ⟨rfl, rfl, trivial⟩, trivial, rfl⟩
end Go.Proofs.YtolaecebfkdbcaaGreat
