/-
  Rows of extents: a field of one in a row of one's own is written; span: add, end, Of; chains: Row.
-/
import Derived.Test.YtbcngglcaeehbaaRw
set_option linter.unusedVariables false
set_option linter.unusedSimpArgs false
set_option maxRecDepth 10000
namespace Go.Proofs.Ytbcngglcaeehbaa
open Go.RowKit Go.Proofs
section
variable {P : Program} {ids : List Nat} {K : KL} {B : BL}
/-- One cell of one of a row's things is written. -/
theorem opOK_rowSet {o : Oper} {T : TypeId} {x v : Operand} {c i off : Nat} {e : TypeId} {u : U} {xs : List (El u)} {y y' : El u} {dv : D} {inf : TypeInfo} (ho : o.op = .store T x v) (hi : P.info? T = some inf) (hz : inf.size = 1) (hx : opv K x = .c (.one (.rp c (sz u) i off)))
    (hv : opv K v = .c (.one (.d dv))) (hB : lookB B c = some (.row e u xs)) (hy : lget xs i = some y) (hoff : off < sz u) (hwf : WfU u y') (hc : ∀ j, j < sz u → cellU u y' j = if j = off then dv else cellU u y j)
    (h1 : ∀ {I : Nat → Prop} {w : World} {z : Value}, Den I w dv z → z.cells = List.toArray [z] ∧ z.oneCell' = true) (N : Nat) :
    OpOK P N ids o K B .undef ⟨[c], [], [(c, some (.row e u (xs.set i y')))]⟩ := by
  have m1 : x ∈ o.op.operands := by rw [ho]; simp [Op.operands]
  have m2 : v ∈ o.op.operands := by rw [ho]; simp [Op.operands]
  have hil : i < xs.length := lget_lt hy
  refine OpOK.turn hB fun K' B' g1 C ρ F a w hM hS hl' => ?_
  obtain ⟨hF, hblk, cs, hown, hrec⟩ := hM.holds c _ hl'
  have hxp := hS.rp ((g1 x m1).trans hx)
  have e2 : Den (Imm C B' F w) w dv (a.eval v) := hS.ev ((g1 v m2).trans hv)
  obtain ⟨d1, d2⟩ := h1 e2
  obtain ⟨hl1, hown⟩ := hown
  rcases hown with ⟨_, h0⟩ | ⟨g, cap, cur, hv', _, hg, hcap, hm, hsz, ht⟩
  · omega
  · have hbg : g = (ρ c).blk := hblk g (by rw [hv']; rfl)
    subst hbg
    have hmul : i * sz u + off < xs.length * sz u := by
      have := Nat.mul_le_mul_right (sz u) hil
      rw [Nat.succ_mul] at this
      omega
    have hmul2 : xs.length * sz u ≤ cap * sz u := Nat.mul_le_mul_right _ hcap
    have hgt : w.heap[(ρ c).blk]? = some (.cells (List.toArray cur.toList) e (0, 0)) := by simpa using hg
    have hfit : i * sz u + off + [a.eval v].length ≤ cur.toList.length := by simp; omega
    have hex := exec_store (P := P) (ev := a.eval) (w := w) ho hxp d1 hi hz hgt hfit (by simpa using d2)
    refine ⟨_, hex, setRow_fr ((hF _).2 (by rw [hv']; rfl)), fun I he => ?_⟩
    have hnew := setRow_heap w (ρ c).blk cur (List.take (i * sz u + off) cur.toList ++ [a.eval v] ++ List.drop (i * sz u + off + [a.eval v].length) cur.toList).toArray e (0, 0) hg
    have hset : (List.take (i * sz u + off) cur.toList ++ [a.eval v] ++ List.drop (i * sz u + off + [a.eval v].length) cur.toList) = cur.toList.set (i * sz u + off) (a.eval v) := by
      rw [List.set_eq_take_append_cons_drop, if_pos (by simp; omega)]
      simp
    rw [hset] at hnew
    refine ⟨hF, hblk, cs.set (i * sz u + off) (a.eval v), ⟨by simp [hl1], .inr ⟨(ρ c).blk, cap, _, by rw [hv']; simp, Nat.zero_le _, by rw [hset]; exact hnew, by simpa using hcap, hm, by simp [hsz], ?_⟩⟩, fun j z hz => ?_⟩
    · rw [← ht]
      simp [List.take_set]
    · by_cases hji : i = j
      · subst hji
        rw [List.getElem?_set_self hil] at hz
        injection hz with hz
        subst hz
        have hd := hrec i y hy
        refine DenU.mk u y' _ hwf fun q hq => ?_
        rw [hc q hq]
        by_cases hqo : q = off
        · rw [if_pos hqo]
          subst hqo
          exact ⟨a.eval v, by rw [List.getElem?_set_self (by omega)], Den.mono he _ _ e2⟩
        · rw [if_neg hqo]
          obtain ⟨x, hx, hx2⟩ := DenU.cell u y _ q hd hq
          exact ⟨x, by rw [List.getElem?_set_ne (by omega)]; exact hx, Den.mono he _ _ hx2⟩
      · rw [List.getElem?_set_ne hji] at hz
        have hd := hrec j z hz
        refine DenU.mk u z _ (DenU.wf u z _ hd) fun q hq => ?_
        obtain ⟨x, hx, hx2⟩ := DenU.cell u z _ q hd hq
        refine ⟨x, ?_, Den.mono he _ _ hx2⟩
        rw [List.getElem?_set_ne ?_]
        · exact hx
        · intro e
          have h1 : (i * sz u + off) / sz u = i := by rw [Nat.mul_comm, Nat.mul_add_div (by omega), Nat.div_eq_of_lt hoff, Nat.add_zero]
          have h2 : (j * sz u + q) / sz u = j := by rw [Nat.mul_comm, Nat.mul_add_div (by omega), Nat.div_eq_of_lt hq, Nat.add_zero]
          rw [e, h2] at h1
          exact hji h1.symm
end
theorem intCell {I : Nat → Prop} {w : World} {n : Int} {z : Value} (h : Den I w (.int .i64 n) z) : z.cells = List.toArray [z] ∧ z.oneCell' = true := by
  have h : z = .int .i64 n := h
  subst h
  exact ⟨rfl, rfl⟩
theorem intI : (Try.prog.info? 3).map (·.size) = some 1 := by kernel_rfl
/-! ### extents -/
@[reducible] def uEx : U := .pr uI (.pr uI uI)
abbrev Xt := Int × Int × Int
@[reducible] def exL (x : Xt) : List S1 := [.d (.int .i64 x.1), .d (.int .i64 x.2.1), .d (.int .i64 x.2.2)]
def exEnd (l : List Xt) : Int := match l.getLast? with
  | none => 0
  | some x => x.1 + x.2.1
/-- One place of a kind more. -/
def exAdd (l : List Xt) (n k : Int) : List Xt := if n < 1 then l else match l.getLast? with
  | some x => if x.2.2 = k then l.set (l.length - 1) (x.1, x.2.1 + n, x.2.2) else l ++ [(exEnd l, n, k)]
  | none => l ++ [(exEnd l, n, k)]
theorem last_get {α : Type} {l : List α} {x : α} (h : l.getLast? = some x) : 0 < l.length ∧ lget l (l.length - 1) = some x := by
  rw [List.getLast?_eq_getElem?] at h
  exact ⟨by have := (List.getElem?_eq_some_iff.1 h).1; omega, h⟩
theorem last_none {α : Type} {l : List α} (h : l.getLast? = none) : l = [] := by simpa using h
theorem send_fn (l : List Xt) (hb : ∀ x, l.getLast? = some x → -4611686018427387904 ≤ x.1 ∧ x.1 ≤ 4611686018427387903 ∧ -4611686018427387904 ≤ x.2.1 ∧ x.2.1 ≤ 4611686018427387903) (hl : l.length ≤ 4294967296) :
    Fn Try.prog 76 [vOwn 1001] [(1001, .row 62 uEx l)] [] (vI (exEnd l)) [(1001, .row 62 uEx l)] := by
  refine Fn.of tblOK [] _ _ _ _ _ Try.func76 rfl rfl (by kernel_rfl) (by kernel_rfl) rfl (drawOK tblOK) rfl ?_
  refine ⟨fun h => ?_, fun h => ?_⟩
  · have h : ((l.length : Nat) : Int) = 0 := of_decide_eq_true h
    have h0 : l = [] := List.length_eq_zero_iff.1 (by omega)
    subst h0
    exact ⟨_, _, _, Le.refl _ _, rfl, rfl, ⟨rfl, trivial⟩, rfl⟩
  · have h : ¬ ((l.length : Nat) : Int) = 0 := of_decide_eq_false h
    cases hx : l.getLast? with
    | none => rw [last_none hx] at h; exact absurd rfl h
    | some x =>
      have hb := hb x hx
      obtain ⟨h0, hg⟩ := last_get hx
      have e : (((l.length : Nat) : Int) - 1).toNat = l.length - 1 := by omega
      have m : (-9223372036854775808 : Int) ≤ ((l.length : Nat) : Int) - 1 ∧ ((l.length : Nat) : Int) - 1 ≤ 9223372036854775807 := by omega
      have m2 : (0 : Int) ≤ ((l.length : Nat) : Int) - 1 ∧ (((l.length : Nat) : Int) - 1).toNat < l.length := by omega
      have m3 : (-9223372036854775808 : Int) ≤ x.1 + x.2.1 ∧ x.1 + x.2.1 ≤ 9223372036854775807 := by omega
      have hg' : lget l (((l.length : Nat) : Int) - 1).toNat = some x := by rw [e]; exact hg
      refine ⟨m, ⟨m2.1, by omega⟩, x, hg', m, ⟨m2.1, by omega⟩, x, hg', m3, rfl, ?_⟩
      exact ⟨_, _, _, Le.refl _ _, rfl, (show x.1 + x.2.1 = exEnd l by unfold exEnd; rw [hx]), ⟨rfl, trivial⟩, rfl⟩
theorem sadd_fn (l : List Xt) (n k : Int) (hb : ∀ x, l.getLast? = some x → -4611686018427387904 ≤ x.1 ∧ x.1 ≤ 4611686018427387903 ∧ -4611686018427387904 ≤ x.2.1 ∧ x.2.1 ≤ 4611686018427387903) (hn : n ≤ 4611686018427387903) (hl : l.length ≤ 1000000000) :
    Fn Try.prog 61 [vOwn 1001, vI n, vI k] [(1001, .row 62 uEx l)] [1002] (vOwn 1002) [(1002, .row 62 uEx (exAdd l n k))] := by
  obtain ⟨ii, ii1, ii2⟩ := inf_of intI
  have hend := send_fn l hb (by omega)
  refine Fn.of tblOK [] _ _ _ _ _ Try.func61 rfl rfl (by kernel_rfl) (by kernel_rfl) rfl (drawOK tblOK) rfl ?_
  refine ⟨fun h => ?_, fun h => ?_⟩
  · have h : n < 1 := of_decide_eq_true h
    have e : exAdd l n k = l := if_pos h
    exact ⟨_, _, _, Le.ren 1001 1002 rfl, rfl, rfl, ⟨congrArg (fun z : List Xt => some (Ch.row 62 uEx z)) e.symm, trivial⟩, rfl⟩
  have h : ¬ n < 1 := of_decide_eq_false h
  have m : (-9223372036854775808 : Int) ≤ ((l.length : Nat) : Int) - 1 ∧ ((l.length : Nat) : Int) - 1 ≤ 9223372036854775807 := by omega
  refine ⟨m, ?_⟩
  cases hx : l.getLast? with
  | none =>
    have h0 := last_none hx
    subst h0
    refine ⟨fun h2 => absurd h2 (by decide), fun _ => ?_⟩
    refine ⟨_, _, _, _, hend, ⟨rfl, trivial⟩, rfl, ?_⟩
    refine ⟨(show (0 + 1 : Nat) ≤ 4294967296 from by decide), rfl, ?_⟩
    have e : exAdd [] n k = [(exEnd [], n, k)] := by unfold exAdd; rw [if_neg h]; rfl
    exact ⟨_, _, _, Le.ren 42 1002 rfl, rfl, rfl, ⟨congrArg (fun z : List Xt => some (Ch.row 62 uEx z)) e.symm, trivial⟩, rfl⟩
  | some x =>
    have hb := hb x hx
    obtain ⟨h0, hg⟩ := last_get hx
    have e : (((l.length : Nat) : Int) - 1).toNat = l.length - 1 := by omega
    have hg' : lget l (((l.length : Nat) : Int) - 1).toNat = some x := by rw [e]; exact hg
    have m2 : (0 : Int) ≤ ((l.length : Nat) : Int) - 1 ∧ ((l.length : Nat) : Int) - 1 < l.length := by omega
    refine ⟨fun _ => ?_, fun h2 => ?_⟩
    · refine ⟨m2, x, hg', ?_⟩
      refine ⟨fun hk => ?_, fun hk => ?_⟩
      · have hk : x.2.2 = k := of_decide_eq_true hk
        have m3 : (-9223372036854775808 : Int) ≤ x.2.1 + n ∧ x.2.1 + n ≤ 9223372036854775807 := by omega
        refine ⟨m2, x, hg', m3, m2, ?_⟩
        refine ⟨_, _, fun N => opOK_rowSet (u := uEx) (y := x) (y' := ((x.1, x.2.1 + n, x.2.2) : Xt)) (off := 1) rfl ii1 ii2 rfl rfl rfl hg' (by decide) ⟨trivial, trivial, trivial⟩ (fun j hj => ?_) intCell N, rfl, ?_⟩
        · match j, hj with
          | 0, _ => rfl
          | 1, _ => rfl
          | 2, _ => rfl
        have e2 : exAdd l n k = l.set (((l.length : Nat) : Int) - 1).toNat (x.1, x.2.1 + n, x.2.2) := by
          unfold exAdd
          rw [if_neg h, hx, e]
          show (if x.2.2 = k then _ else _) = _
          rw [if_pos hk]
        exact ⟨_, _, _, Le.ren 1001 1002 rfl, rfl, rfl, ⟨congrArg (fun z : List Xt => some (Ch.row 62 uEx z)) e2.symm, trivial⟩, rfl⟩
      · have hk : ¬ x.2.2 = k := of_decide_eq_false hk
        refine ⟨_, _, _, _, hend, ⟨rfl, trivial⟩, rfl, ?_⟩
        have m4 : List.length (α := Xt) l + 1 ≤ 4294967296 := by omega
        refine ⟨m4, rfl, ?_⟩
        have e2 : exAdd l n k = l ++ [(exEnd l, n, k)] := by
          unfold exAdd
          rw [if_neg h, hx]
          show (if x.2.2 = k then _ else _) = _
          rw [if_neg hk]
        exact ⟨_, _, _, Le.ren 42 1002 rfl, rfl, rfl, ⟨congrArg (fun z : List Xt => some (Ch.row 62 uEx z)) e2.symm, trivial⟩, rfl⟩
    · have h2 : ¬ ((l.length : Nat) : Int) - 1 ≥ 0 := of_decide_eq_false h2
      omega
/-! ### Of -/
def exOf (ks : List Int) : List Xt := ks.foldl (fun l k => exAdd l 1 k) []
/-- What a row tells of kinds. -/
structure ExOK (ks : List Int) (l : List Xt) : Prop where
  end_ : exEnd l = (ks.length : Int)
  each : ∀ x, x ∈ l → 0 ≤ x.1 ∧ 1 ≤ x.2.1 ∧ x.1 + x.2.1 ≤ (ks.length : Int) ∧ ∀ k : Nat, x.1 ≤ (k : Int) → (k : Int) < x.1 + x.2.1 → ks[k]? = some x.2.2
  len : l.length ≤ ks.length
theorem exEnd_snoc (l : List Xt) (x : Xt) : exEnd (l ++ [x]) = x.1 + x.2.1 := by
  unfold exEnd
  rw [List.getLast?_concat]
theorem ExOK.add {ks : List Int} {l : List Xt} (h : ExOK ks l) (k : Int) : ExOK (ks ++ [k]) (exAdd l 1 k) := by
  have hold : ∀ x, x ∈ l → 0 ≤ x.1 ∧ 1 ≤ x.2.1 ∧ x.1 + x.2.1 ≤ ((ks ++ [k]).length : Int) ∧ ∀ j : Nat, x.1 ≤ (j : Int) → (j : Int) < x.1 + x.2.1 → (ks ++ [k])[j]? = some x.2.2 := fun x hx => by
    obtain ⟨h1, h2, h3, h4⟩ := h.each x hx
    refine ⟨h1, h2, by rw [List.length_append]; simp; omega, fun j hj1 hj2 => ?_⟩
    rw [List.getElem?_append_left (by omega)]
    exact h4 j hj1 hj2
  have hnew : ExOK (ks ++ [k]) (l ++ [(exEnd l, 1, k)]) := by
    refine ⟨?_, fun x hx => ?_, by simp; exact h.len⟩
    · rw [exEnd_snoc, h.end_, List.length_append]
      simp
    · rcases List.mem_append.1 hx with hx | hx
      · exact hold x hx
      · rw [List.mem_singleton] at hx
        subst hx
        refine ⟨by show 0 ≤ exEnd l; rw [h.end_]; omega, (show (1 : Int) ≤ 1 from by decide), by show exEnd l + 1 ≤ _; rw [h.end_, List.length_append]; simp, fun j hj1 hj2 => ?_⟩
        have hj1 : exEnd l ≤ (j : Int) := hj1
        have hj2 : (j : Int) < exEnd l + 1 := hj2
        rw [h.end_] at hj1 hj2
        have : j = ks.length := by omega
        subst this
        rw [List.getElem?_append_right (Nat.le_refl _)]
        simp
  unfold exAdd
  rw [if_neg (by decide)]
  cases hx : l.getLast? with
  | none => exact hnew
  | some x =>
    simp only
    split
    · rename_i hk
      obtain ⟨h0, hg⟩ := last_get hx
      have hxm : x ∈ l := List.mem_of_getElem? hg
      have hend : x.1 + x.2.1 = (ks.length : Int) := by have := h.end_; unfold exEnd at this; rw [hx] at this; exact this
      obtain ⟨h1, h2, h3, h4⟩ := h.each x hxm
      refine ⟨?_, fun y hy => ?_, by rw [List.length_set, List.length_append]; have := h.len; omega⟩
      · unfold exEnd
        rw [List.getLast?_eq_getElem?, List.length_set, List.getElem?_set_self (by omega)]
        show x.1 + (x.2.1 + 1) = _
        rw [List.length_append]
        simp
        omega
      · rcases List.mem_or_eq_of_mem_set hy with hy | rfl
        · exact hold y hy
        · refine ⟨h1, by show 1 ≤ x.2.1 + 1; omega, by show x.1 + (x.2.1 + 1) ≤ _; rw [List.length_append]; simp; omega, fun j hj1 hj2 => ?_⟩
          have hj1 : x.1 ≤ (j : Int) := hj1
          have hj2 : (j : Int) < x.1 + (x.2.1 + 1) := hj2
          show (ks ++ [k])[j]? = some x.2.2
          by_cases hj : (j : Int) < x.1 + x.2.1
          · rw [List.getElem?_append_left (by omega)]
            exact h4 j hj1 hj
          · have : j = ks.length := by omega
            subst this
            rw [List.getElem?_append_right (Nat.le_refl _), hk]
            simp
    · exact hnew
theorem exOf_snoc (ks : List Int) (k : Int) : exOf (ks ++ [k]) = exAdd (exOf ks) 1 k := by
  unfold exOf
  rw [List.foldl_append]
  rfl
theorem exOf_ok (ks : List Int) : ExOK ks (exOf ks) := by
  have key : ∀ n, n ≤ ks.length → ExOK (ks.take n) (exOf (ks.take n)) := fun n => by
    induction n with
    | zero => intro _; exact ⟨rfl, (fun _ h => by cases h), Nat.le_refl _⟩
    | succ n ih =>
      intro hn
      rw [List.take_add_one, List.getElem?_eq_getElem (by omega)]
      show ExOK (ks.take n ++ [ks[n]]) (exOf (ks.take n ++ [ks[n]]))
      rw [exOf_snoc]
      exact (ih (by omega)).add _
  have := key ks.length (Nat.le_refl _)
  rwa [List.take_length] at this
@[reducible] def soK (ks : List Int) (j : Nat) : KL := [(3, vOwn 5002), (9, vL uI ks), (10, vI (ks.length : Nat)), (11, vI (j : Nat))]
theorem sof_fn (ks : List Int) (hk : ks.length ≤ 65536) : Fn Try.prog 39 [vL uI ks] [] [] (vL uEx (exOf ks)) [] := by
  refine Fn.of tblOK [] _ _ _ _ _ Try.func39 rfl rfl (by kernel_rfl) (by kernel_rfl) rfl (drawOK tblOK) rfl ?_
  refine ⟨fun h => ?_, fun _ => ?_⟩
  · exfalso
    have h : (65536 : Int) < ((ks.length : Nat) : Int) := of_decide_eq_true h
    omega
  show TrQ _ _ _ _ _ _ _
  refine TrQ.loop tblOK (drawOK tblOK) [] (by kernel_rfl) (X := Nat) (soK ks) (fun j => [(5002, .row 62 uEx (exOf (ks.take j)))]) (fun j => j ≤ ks.length) (fun j => ks.length - j) 0 (Nat.zero_le _) ?_ ?_
  · exact (Le.nil 3 5002 62 uEx rfl rfl).trans (Le.sub ⟨rfl, rfl, rfl, rfl, trivial⟩ ⟨rfl, trivial⟩)
  intro j hj
  refine ⟨fun hc => ?_, fun hc => ?_⟩
  · have hc : decide ((j : Int) < ((ks.length : Nat) : Int)) = true := hc
    have hj1 : j < ks.length := by have := of_decide_eq_true hc; omega
    have hok := exOf_ok (ks.take j)
    have hlt : (ks.take j).length = j := by rw [List.length_take]; omega
    have hnx : exOf (ks.take (j + 1)) = exAdd (exOf (ks.take j)) 1 ks[j] := by
      rw [List.take_add_one, List.getElem?_eq_getElem hj1]
      exact exOf_snoc _ _
    refine ⟨by omega, ks[j], lgAt (n := j) hj1, ?_⟩
    refine ⟨_, _, _, _, Fn.ren [(1001, 5002)] (sadd_fn (exOf (ks.take j)) 1 ks[j] (fun x hx => ?_) (by decide) (by have := hok.len; omega)), ⟨rfl, trivial⟩, rfl, ?_⟩
    · have := hok.each x (List.mem_of_getElem? (last_get hx).2)
      omega
    exact ⟨by omega, j + 1, hj1, by omega, Le.trans (Le.sub (K' := [(3, vOwn 1002), (9, vL uI ks), (10, vI (ks.length : Nat)), (11, vI ((j + 1 : Nat) : Int))]) (B' := [(1002, .row 62 uEx (exOf (ks.take (j + 1))))]) ⟨rfl, rfl, rfl, rfl, trivial⟩ ⟨congrArg (fun z : List Xt => some (Ch.row 62 uEx z)) hnx.symm, trivial⟩) ((Le.ren 1002 5002 rfl).trans (Le.sub ⟨rfl, rfl, rfl, rfl, trivial⟩ ⟨rfl, trivial⟩))⟩
  · have hc : decide ((j : Int) < ((ks.length : Nat) : Int)) = false := hc
    have hj2 : j = ks.length := by have := of_decide_eq_false hc; omega
    subst hj2
    exact ⟨_, _, _, Le.frz 5002 rfl, rfl, (show exOf (ks.take ks.length) = exOf ks by rw [List.take_length]), trivial, rfl⟩
section
variable {bits room : Nat} {L : List Dsk}
def rwC (bits : Nat) (L : List Dsk) (nm : List UInt8) : List Xt × Int := match dk L nm with
  | none => ([], 140)
  | some d => (exOf (awyL bits L nm d.im.t.length), 0)
@[reducible] def rwK (nm : List UInt8) (n j : Nat) : KL := [(0, vP 1001), (1, vS nm), (7, vOwn 5002), (23, vI (n : Int)), (24, vI (j : Int))]
@[reducible] def rwB (bits room : Int) (L : List Dsk) (x : List Int) : BL := chB bits room L ++ [(5002, .row 3 uI x)]
@[reducible] def rwK2 (nm : List UInt8) (n j : Nat) : KL := [(0, vP 1001), (1, vS nm), (7, vOwn 37), (23, vI (n : Int)), (24, vI (j : Int))]
@[reducible] def rwB2 (bits room : Int) (L : List Dsk) (x : List Int) : BL := chB bits room L ++ [(37, .row 3 uI x)]
theorem chrow_fn (h : CS bits room L) (nm : List UInt8) : Fn Try.prog 19 [vP 1001, vS nm] (chB bits room L) [] (.tup [.one (.d (.lst uEx (rwC bits L nm).1)), vErr (rwC bits L nm).2]) (chB bits room L) := by
  unfold rwC
  cases h0 : dk L nm with
  | none =>
    have hx : (mget (ku := .str) (vu := .adr) (chE L) nm).getD (dflt .adr) = none := by rw [cget, h0]; rfl
    simp only
    refine Fn.of tblOK [] _ _ _ _ _ Try.func19 rfl rfl (by kernel_rfl) (by kernel_rfl) rfl (drawOK tblOK) rfl ?_
    refine ⟨fun b' hb => absurd (show (mget (ku := .str) (vu := .adr) (chE L) nm).getD (dflt .adr) = some b' from hb) (by rw [hx]; intro h; cases h), fun _ => ?_⟩
    exact ⟨_, _, _, Le.refl _ _, rfl, ⟨rfl, rfl, trivial⟩, ⟨rfl, rfl, rfl, rfl, trivial⟩, rfl⟩
  | some d0 =>
    obtain ⟨ia, ia1, ia2⟩ := inf_of infAdr
    obtain ⟨o1, o2, o3⟩ := h.ims d0 (dk_get h0).1
    have htl := o1.tl
    have hd := h.dep nm
    have hLd := h.toChN.D (dk_get h0).1
    have hLm := h.toChN.M (dk_get h0).1
    have hx : (mget (ku := .str) (vu := .adr) (chE L) nm).getD (dflt .adr) = some d0.ad := by rw [cget, h0]; rfl
    have hof := sof_fn (awyL bits L nm d0.im.t.length) (by rw [awyL_len]; omega)
    simp only
    refine Fn.of tblOK [] _ _ _ _ _ Try.func19 rfl rfl (by kernel_rfl) (by kernel_rfl) rfl (drawOK tblOK) rfl ?_
    refine ⟨fun b' hb => ?_, fun hb => absurd (show (mget (ku := .str) (vu := .adr) (chE L) nm).getD (dflt .adr) = none from hb) (by rw [hx]; intro h; cases h)⟩
    refine ⟨_, _, fun N => opOK_nilAdr (b := d0.ad) rfl (by exact adrV_eq hx) N, rfl, ?_⟩
    refine ⟨_, _, fun N => opOK_fieldAdr rfl Try.underlying66 rfl rfl ia1 (by rw [ia2]; decide) rfl N, rfl, ?_⟩
    refine ⟨_, _, fun N => opOK_loadRaw (q := 1003) rfl Try.underlying40 rfl rfl rfl hLd rfl N, rfl, ?_⟩
    refine ⟨_, _, _, _, imFn (isize_fn d0.im) hLm rfl rfl rfl rfl, ⟨rfl, trivial⟩, rfl, ?_⟩
    show TrQ _ _ _ _ _ _ _
    refine TrQ.loop tblOK (drawOK tblOK) [] (by kernel_rfl) (X := Nat) (rwK nm d0.im.t.length) (fun j => rwB bits room L (awyL bits L nm j)) (fun j => j ≤ d0.im.t.length) (fun j => d0.im.t.length - j) 0 (Nat.zero_le _) ?_ ?_
    · exact (Le.nil 7 5002 3 uI rfl rfl).trans (Le.sub ⟨rfl, rfl, rfl, rfl, rfl, trivial⟩ ⟨rfl, rfl, rfl, rfl, rfl, trivial⟩)
    intro j hj
    refine ⟨fun hc => ?_, fun hc => ?_⟩
    · have hc : decide ((j : Int) < ((d0.im.t.length : Nat) : Int)) = true := hc
      have hj1 : j < d0.im.t.length := by have := of_decide_eq_true hc; omega
      refine ⟨_, _, _, _, seen_fn bits room L h.toChOK nm d0 h0 (dpt L nm) hd.1 (by omega) j (by omega), ⟨rfl, rfl, rfl, rfl, trivial⟩, rfl, ?_⟩
      have m : List.length (α := Int) (awyL bits L nm j) + 1 ≤ 4294967296 := by rw [awyL_len]; omega
      refine ⟨m, rfl, ?_⟩
      refine ⟨by omega, j + 1, hj1, by omega, ?_⟩
      have e := awyL_succ bits L nm j
      refine Le.trans (Le.sub (K' := rwK2 nm d0.im.t.length (j + 1)) (B' := rwB2 bits room L (awyL bits L nm (j + 1))) ⟨rfl, rfl, rfl, rfl, rfl, trivial⟩ ⟨rfl, rfl, rfl, rfl, congrArg (fun z : List Int => some (Ch.row 3 uI z)) e.symm, trivial⟩) ?_
      exact (Le.ren 37 5002 rfl).trans (Le.sub ⟨rfl, rfl, rfl, rfl, rfl, trivial⟩ ⟨rfl, rfl, rfl, rfl, rfl, trivial⟩)
    · have hc : decide ((j : Int) < ((d0.im.t.length : Nat) : Int)) = false := hc
      have hj2 : j = d0.im.t.length := by have := of_decide_eq_false hc; omega
      subst hj2
      refine ⟨_, _, _, _, (Fn.own (d := 5002) (e := 3) (u := uI) (xs := awyL bits L nm d0.im.t.length) (args := [vOwn 5002]) hof rfl), ⟨rfl, trivial⟩, rfl, ?_⟩
      exact ⟨_, _, _, Le.refl _ _, rfl, ⟨rfl, rfl, trivial⟩, ⟨rfl, rfl, rfl, rfl, trivial⟩, rfl⟩
def dpC (L : List Dsk) (nm : List UInt8) : Int × Int := match dk L nm with
  | none => (0, 140)
  | some _ => ((dpt L nm : Nat), 0)
end
end Go.Proofs.Ytbcngglcaeehbaa
