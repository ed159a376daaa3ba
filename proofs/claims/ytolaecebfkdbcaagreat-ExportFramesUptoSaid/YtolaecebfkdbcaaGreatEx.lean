/-
  Export: put, form, Ask, Hear, Tell.
-/
import Derived.Test.YtolaecebfkdbcaaGreatOk
import Derived.Test.YtolaecebfkdbcaaGreatIu
set_option linter.unusedVariables false
set_option linter.unusedSimpArgs false
set_option maxRecDepth 10000
namespace Go.Proofs.YtolaecebfkdbcaaGreat
open Go.RowKit Go.Proofs
theorem pw_of {w : Nat} (hw : W w) : (2 ^ (8 * ((w : Nat) : Int)).toNat : Nat) = 256 ^ w ∧ 256 ^ w ≤ 4294967296 := by
  rcases hw with rfl | rfl | rfl <;> decide
theorem ofits_any (n : Int) (w : Nat) (hw : W w) : Fn Tryz.prog 103 [vI n, vI (w : Nat)] [] [] (vB (fit w n)) [] := by
  have hp := pw_of hw
  have hw4 : w ≤ 4 := by unfold W at hw; omega
  unfold fit
  generalize 256 ^ w = p at *
  refine Fn.of tblOK [] _ _ _ _ _ Tryz.func103 rfl rfl (by kernel_rfl) (by kernel_rfl) rfl (drawOK tblOK) rfl ?_
  refine ⟨fun h => ?_, fun h1 => ?_⟩
  · have h : ((w : Nat) : Int) = 8 := of_decide_eq_true h
    omega
  refine ⟨fun h => ?_, fun h => ?_⟩
  · have h : decide ((0 : Int) ≤ n) = true := h
    refine ⟨by omega, ⟨by omega, by omega, by omega⟩, ?_, ?_⟩
    · rw [hp.1]; omega
    refine ⟨_, _, _, Le.refl _ _, rfl, ?_, trivial, rfl⟩
    show decide (n < 1 * ((2 ^ (8 * ((w : Nat) : Int)).toNat : Nat) : Int)) = (decide (0 ≤ n) && decide (n < ((p : Nat) : Int)))
    rw [hp.1, h, Int.one_mul]
    rfl
  · have h : decide ((0 : Int) ≤ n) = false := h
    refine ⟨_, _, _, Le.refl _ _, rfl, (show false = (decide (0 ≤ n) && decide (n < ((p : Nat) : Int))) by rw [h]; rfl), trivial, rfl⟩
theorem oput_no (xs : List UInt8) (w : Nat) (n : Int) (hw : W w) (hn : fit w n = false) : Fn Tryz.prog 67 [vOwn 1001, vI (w : Nat), vL uInt [n]] (byR 1001 xs) [] (.tup [.one (.own 1001), .one (.d (.bool false))]) (byR 1001 xs) := by
  have hf := ofits_any n w hw
  rw [hn] at hf
  refine Fn.of tblOK [] _ _ _ _ _ Tryz.func67 rfl rfl (by kernel_rfl) (by kernel_rfl) rfl (drawOK tblOK) rfl ?_
  refine ⟨_, _, _, _, oright_spec w hw, trivial, rfl, ?_⟩
  refine ⟨fun h => absurd h (by decide), fun _ => ?_⟩
  show TrQ _ _ _ _ _ _ _
  refine TrQ.loop tblOK (drawOK tblOK) [] (by kernel_rfl) (X := Unit) (fun _ => [(0, vOwn 1001), (1, vI (w : Nat)), (17, vL uInt [n]), (18, vI 1), (19, vI 0)]) (fun _ => byR 1001 xs) (fun _ => True) (fun _ => 0) () trivial ?_ ?_
  · exact Le.sub ⟨rfl, rfl, rfl, rfl, rfl, trivial⟩ ⟨rfl, trivial⟩
  rintro ⟨⟩ -
  refine ⟨fun _ => ?_, fun h => absurd h (by decide)⟩
  refine ⟨by decide, n, rfl, ?_⟩
  refine ⟨_, _, _, _, hf, trivial, rfl, ?_⟩
  refine ⟨fun _ => ?_, fun h => absurd h (by decide)⟩
  exact ⟨_, _, _, Le.refl _ _, rfl, ⟨rfl, rfl, trivial⟩, ⟨rfl, trivial⟩, rfl⟩
/-! ### put -/
@[reducible] def uFd : U := .pr (.int .i64) (.int .i64)
abbrev Fd := Nat × Int
@[reducible] def fdE (f : Fd) : El uFd := @Prod.mk Int Int (f.1 : Int) f.2
@[reducible] def fdL (l : List Fd) : List (El uFd) := l.map fdE
def fdOK (l : List Fd) : Bool := l.all fun f => fit f.1 f.2
def fdB (l : List Fd) : List UInt8 := l.flatMap fun f => encR f.2.toNat f.1
theorem fdB_step {l : List Fd} {k : Nat} (h : k < l.length) : fdB (l.take (k + 1)) = fdB (l.take k) ++ encR (l[k]).2.toNat (l[k]).1 := by
  unfold fdB
  rw [← take_step h, List.flatMap_append]
  simp
theorem fdB_len {l : List Fd} (hw : ∀ f, f ∈ l → W f.1) : (fdB l).length ≤ 4 * l.length := by
  induction l with
  | nil => exact Nat.zero_le _
  | cons f l ih =>
    have := ih fun x hx => hw x (List.mem_cons_of_mem _ hx)
    have hf := hw f (List.mem_cons_self ..)
    unfold W at hf
    show (encR f.2.toNat f.1 ++ fdB l).length ≤ 4 * (l.length + 1)
    rw [List.length_append, encR_length]
    omega
@[reducible] def epK (l : List Fd) (k : Nat) : KL := [(4, vOwn 5001), (9, vL uFd (fdL l)), (10, vI (l.length : Nat)), (11, vI (k : Nat))]
theorem eput_fn (l : List Fd) (hw : ∀ f, f ∈ l → W f.1) (hl : l.length ≤ 1000) (hf : fdOK l = true) : Fn Tryz.prog 33 [vL uFd (fdL l)] [] [1001] (.tup [.one (.own 1001), .one (.d (.bool true))]) (byR 1001 (fdB l)) := by
  have hll : List.length (fdL l) = l.length := List.length_map _
  refine Fn.of tblOK [5] _ _ _ _ _ Tryz.func33 rfl rfl (by kernel_rfl) (by kernel_rfl) rfl (drawOK tblOK) rfl ?_
  show TrQ _ _ _ _ _ _ _
  refine TrQ.loop tblOK (drawOK tblOK) [5] (by kernel_rfl) (X := Nat) (fun k => epK l k) (fun k => byR 5001 (fdB (l.take k))) (fun k => k ≤ l.length) (fun k => l.length - k) 0 (Nat.zero_le _) ?_ ?_
  · exact Le.trans (Le.nil 4 5001 5 .u8 rfl rfl) (Le.sub ⟨rfl, rfl, congrArg Int.ofNat hll, rfl, trivial⟩ ⟨rfl, trivial⟩)
  intro k hk
  have hk : k ≤ l.length := hk
  refine ⟨fun h => ?_, fun h => ?_⟩
  · have hk1 : k < l.length := by
      have h : decide ((k : Int) < ((l.length : Nat) : Int)) = true := h
      have := of_decide_eq_true h
      omega
    have hget : lget (fdL l) k = some (fdE l[k]) := by
      show (l.map fdE)[k]? = _
      rw [List.getElem?_map, List.getElem?_eq_getElem hk1]
      rfl
    have hst := fdB_step hk1
    have hmem := List.getElem_mem hk1
    have hwk := hw _ hmem
    have hfk := fit_iff.1 (List.all_eq_true.1 hf _ hmem)
    have hb := fdB_len (l := l.take k) fun f hf => hw f (List.mem_of_mem_take hf)
    have hb2 : (l.take k).length ≤ 1000 := by rw [List.length_take]; omega
    generalize l[k] = f at *
    obtain ⟨w, n⟩ := f
    have hp := put_spec (fdB (l.take k)) w [n.toNat] hwk (fun m hm => by simp only [List.mem_singleton] at hm; subst hm; exact hfk.2) (by simp) (by omega)
    have e1 : (ints [n.toNat] : List Int) = [n] := by
      show [((n.toNat : Nat) : Int)] = [n]
      rw [Int.toNat_of_nonneg hfk.1]
    have e2 : encNs w [n.toNat] = encR n.toNat w := by unfold encNs; simp
    have e1 : (ints [n.toNat] : List (El uInt)) = ([n] : List Int) := e1
    rw [e1, e2] at hp
    refine ⟨by omega, _, hget, ?_⟩
    refine ⟨rfl, ?_⟩
    show TrQ _ _ _ _ _ _ _
    refine TrQ.go tblOK (drawOK tblOK) [] (by kernel_rfl) (Le.refl _ _) ?_
    refine ⟨_, _, _, _, Fn.ren [(1001, 5001), (1002, 5002)] hp, ⟨rfl, trivial⟩, rfl, ?_⟩
    refine ⟨fun h => absurd h (by decide), fun _ => ?_⟩
    exact ⟨by omega, k + 1, hk1, by omega, Le.trans (Le.sub (K' := [(4, vOwn 5002), (9, vL uFd (fdL l)), (10, vI (l.length : Nat)), (11, vI ((k + 1 : Nat) : Int))]) (B' := byR 5002 (fdB (l.take (k + 1)))) ⟨rfl, rfl, rfl, rfl, trivial⟩ ⟨congrArg (fun z => some (Ch.row 5 .u8 z)) hst.symm, trivial⟩) (Le.trans (Le.ren 5002 5001 rfl) (Le.sub ⟨rfl, rfl, rfl, rfl, trivial⟩ ⟨rfl, trivial⟩))⟩
  · have hk1 : k = l.length := by
      have h : decide ((k : Int) < ((l.length : Nat) : Int)) = false := h
      have := of_decide_eq_false h
      omega
    subst hk1
    exact ⟨_, _, _, Le.ren 5001 1001 rfl, rfl, ⟨rfl, rfl, trivial⟩, ⟨congrArg (fun z => some (Ch.row 5 .u8 (fdB z))) (List.take_length ..), trivial⟩, rfl⟩
theorem eput_no (l : List Fd) (hw : ∀ f, f ∈ l → W f.1) (hl : l.length ≤ 1000) (hf : fdOK l = false) : Fn Tryz.prog 33 [vL uFd (fdL l)] [] [] (.tup [.one .nils, .one (.d (.bool false))]) [] := by
  have hll : List.length (fdL l) = l.length := List.length_map _
  refine Fn.of tblOK [5] _ _ _ _ _ Tryz.func33 rfl rfl (by kernel_rfl) (by kernel_rfl) rfl (drawOK tblOK) rfl ?_
  show TrQ _ _ _ _ _ _ _
  refine TrQ.loop tblOK (drawOK tblOK) [5] (by kernel_rfl) (X := Nat) (fun k => epK l k) (fun k => byR 5001 (fdB (l.take k))) (fun k => k ≤ l.length ∧ fdOK (l.take k) = true) (fun k => l.length - k) 0 ⟨Nat.zero_le _, rfl⟩ ?_ ?_
  · exact Le.trans (Le.nil 4 5001 5 .u8 rfl rfl) (Le.sub ⟨rfl, rfl, congrArg Int.ofNat hll, rfl, trivial⟩ ⟨rfl, trivial⟩)
  rintro k ⟨hk, hpre⟩
  have hk : k ≤ l.length := hk
  have hpre : fdOK (l.take k) = true := hpre
  refine ⟨fun h => ?_, fun h => ?_⟩
  · have hk1 : k < l.length := by
      have h : decide ((k : Int) < ((l.length : Nat) : Int)) = true := h
      have := of_decide_eq_true h
      omega
    have hget : lget (fdL l) k = some (fdE l[k]) := by
      show (l.map fdE)[k]? = _
      rw [List.getElem?_map, List.getElem?_eq_getElem hk1]
      rfl
    have hst := fdB_step hk1
    have hpre2 : fit (l[k]).1 (l[k]).2 = true → fdOK (l.take (k + 1)) = true := by
      intro hx
      unfold fdOK at hpre ⊢
      rw [← take_step hk1, List.all_append, hpre]
      show (true && (fit (l[k]).1 (l[k]).2 && true)) = true
      rw [hx]
      rfl
    have hmem := List.getElem_mem hk1
    have hwk := hw _ hmem
    have hb := fdB_len (l := l.take k) fun f hf => hw f (List.mem_of_mem_take hf)
    have hb2 : (l.take k).length ≤ 1000 := by rw [List.length_take]; omega
    generalize l[k] = f at *
    obtain ⟨w, n⟩ := f
    refine ⟨by omega, _, hget, ?_⟩
    refine ⟨rfl, ?_⟩
    show TrQ _ _ _ _ _ _ _
    refine (Bool.eq_false_or_eq_true (fit w n)).elim (fun hfit => ?_) (fun hfit => ?_)
    · have hfk := fit_iff.1 hfit
      have hp := put_spec (fdB (l.take k)) w [n.toNat] hwk (fun m hm => by simp only [List.mem_singleton] at hm; subst hm; exact hfk.2) (by simp) (by omega)
      have e1 : (ints [n.toNat] : List Int) = [n] := by
        show [((n.toNat : Nat) : Int)] = [n]
        rw [Int.toNat_of_nonneg hfk.1]
      have e2 : encNs w [n.toNat] = encR n.toNat w := by unfold encNs; simp
      have e1 : (ints [n.toNat] : List (El uInt)) = ([n] : List Int) := e1
      rw [e1, e2] at hp
      refine TrQ.go tblOK (drawOK tblOK) [] (by kernel_rfl) (Le.refl _ _) ?_
      refine ⟨_, _, _, _, Fn.ren [(1001, 5001), (1002, 5002)] hp, ⟨rfl, trivial⟩, rfl, ?_⟩
      refine ⟨fun h => absurd h (by decide), fun _ => ?_⟩
      exact ⟨by omega, k + 1, ⟨hk1, hpre2 hfit⟩, by omega, Le.trans (Le.sub (K' := [(4, vOwn 5002), (9, vL uFd (fdL l)), (10, vI (l.length : Nat)), (11, vI ((k + 1 : Nat) : Int))]) (B' := byR 5002 (fdB (l.take (k + 1)))) ⟨rfl, rfl, rfl, rfl, trivial⟩ ⟨congrArg (fun z => some (Ch.row 5 .u8 z)) hst.symm, trivial⟩) (Le.trans (Le.ren 5002 5001 rfl) (Le.sub ⟨rfl, rfl, rfl, rfl, trivial⟩ ⟨rfl, trivial⟩))⟩
    · have hp := oput_no (fdB (l.take k)) w n hwk hfit
      refine TrQ.go tblOK (drawOK tblOK) [] (by kernel_rfl) (Le.refl _ _) ?_
      refine ⟨_, _, _, _, Fn.ren [(1001, 5001)] hp, ⟨rfl, trivial⟩, rfl, ?_⟩
      refine ⟨fun _ => ?_, fun h => absurd h (by decide)⟩
      exact ⟨_, _, _, Le.refl _ _, rfl, ⟨rfl, rfl, trivial⟩, trivial, rfl⟩
  · have hk1 : k = l.length := by
      have h : decide ((k : Int) < ((l.length : Nat) : Int)) = false := h
      have := of_decide_eq_false h
      omega
    subst hk1
    rw [List.take_length, hf] at hpre
    cases hpre
/-! Export: form, right, Ask, Hear, Tell, Left, Replies. -/
theorem eform_ok (b : List UInt8) : Fn Tryz.prog 34 [vOwn 1001, vB true] (byR 1001 b) [] (.tup [.one (.own 1001), .one (.d (.int .i64 0))]) (byR 1001 b) := by
  refine Fn.of tblOK [] _ _ _ _ _ Tryz.func34 rfl rfl (by kernel_rfl) (by kernel_rfl) rfl (drawOK tblOK) rfl ?_
  refine ⟨fun h => absurd h (by decide), fun _ => ?_⟩
  exact ⟨_, _, _, Le.refl _ _, rfl, ⟨rfl, rfl, trivial⟩, ⟨rfl, trivial⟩, rfl⟩
theorem eform_no (b : List UInt8) : Fn Tryz.prog 34 [vOwn 1001, vB false] (byR 1001 b) [] (.tup [.one .nils, .one (.d (.int .i64 200))]) (byR 1001 b) := by
  refine Fn.of tblOK [] _ _ _ _ _ Tryz.func34 rfl rfl (by kernel_rfl) (by kernel_rfl) rfl (drawOK tblOK) rfl ?_
  refine ⟨fun _ => ?_, fun h => absurd h (by decide)⟩
  exact ⟨_, _, _, Le.refl _ _, rfl, ⟨rfl, rfl, trivial⟩, ⟨rfl, trivial⟩, rfl⟩
theorem eform_nil : Fn Tryz.prog 34 [v1 .nils, vB false] [] [] (.tup [.one .nils, .one (.d (.int .i64 200))]) [] := by
  refine Fn.of tblOK [] _ _ _ _ _ Tryz.func34 rfl rfl (by kernel_rfl) (by kernel_rfl) rfl (drawOK tblOK) rfl ?_
  refine ⟨fun _ => ?_, fun h => absurd h (by decide)⟩
  exact ⟨_, _, _, Le.refl _ _, rfl, ⟨rfl, rfl, trivial⟩, trivial, rfl⟩
@[reducible] def rqS (r : Rq) : List S1 := [.d (.int .i64 (rqK r)), .d (.int .i64 (rqC r)), .d (.int .i64 (rqH r)), .d (.int .i64 (rqA r)), .d (.int .i64 (rqL r))]
@[reducible] def rqV (r : Rq) : SV := .c (.agg (rqS r))
@[reducible] def rq0 : Rq := (0, 0, 0, 0, 0)
@[reducible] def rqOr (b : Bool) (r : Rq) : Rq := bif b then r else rq0
@[reducible] def e200 (b : Bool) : Int := bif b then 0 else 200
theorem form_rq (r : Rq) (b : Bool) : Fn Tryz.prog 39 [rqV r, vB b] [] [] (.tup [.agg (rqS (rqOr b r)), .one (.d (.int .i64 (e200 b)))]) [] := by
  refine Fn.of tblOK [] _ _ _ _ _ Tryz.func39 rfl rfl (by kernel_rfl) (by kernel_rfl) rfl (drawOK tblOK) rfl ?_
  refine ⟨rfl, rfl, ?_⟩
  refine ⟨fun h => ?_, fun h => ?_⟩
  · have h : (!b) = true := h
    have hb : b = false := by simpa using h
    subst hb
    refine ⟨rfl, ?_⟩
    exact ⟨_, _, _, Le.refl _ _, rfl, ⟨⟨rfl, rfl, rfl, rfl, rfl, trivial⟩, rfl, trivial⟩, trivial, rfl⟩
  · have h : (!b) = false := h
    have hb : b = true := by simpa using h
    subst hb
    exact ⟨_, _, _, Le.refl _ _, rfl, ⟨⟨rfl, rfl, rfl, rfl, rfl, trivial⟩, rfl, trivial⟩, trivial, rfl⟩
theorem eright_fn (k : Int) : Fn Tryz.prog 35 [vI k] [] [] (vB (kindOK k)) [] := by
  refine Fn.of tblOK [] _ _ _ _ _ Tryz.func35 rfl rfl (by kernel_rfl) (by kernel_rfl) rfl (drawOK tblOK) rfl ?_
  refine ⟨fun h => ?_, fun h => ?_⟩
  · have h : decide ((1 : Int) ≤ k) = true := h
    refine ⟨_, _, _, Le.refl _ _, rfl, ?_, trivial, rfl⟩
    show _ = (decide (1 ≤ k) && decide (k ≤ 4))
    rw [h]
    rfl
  · have h : decide ((1 : Int) ≤ k) = false := h
    refine ⟨_, _, _, Le.refl _ _, rfl, ?_, trivial, rfl⟩
    show _ = (decide (1 ≤ k) && decide (k ≤ 4))
    rw [h]
    rfl
/-! ### Ask -/
@[reducible] def rqF (r : Rq) : List Fd := [(4, 1886286962), (1, rqK r), (1, rqC r), (2, rqH r), (4, rqA r), (4, rqL r)]
theorem rqF_W (r : Rq) : ∀ f, f ∈ rqF r → W f.1 := by
  intro f hf
  simp only [rqF, List.mem_cons, List.not_mem_nil, or_false] at hf
  unfold W
  rcases hf with rfl | rfl | rfl | rfl | rfl | rfl <;> simp
theorem rqF_ok (r : Rq) : fdOK (rqF r) = rqFit r := by
  show (fit 4 1886286962 && (fit 1 (rqK r) && (fit 1 (rqC r) && (fit 2 (rqH r) && (fit 4 (rqA r) && (fit 4 (rqL r) && true)))))) = _
  rw [show fit 4 1886286962 = true from rfl, Bool.and_true, Bool.true_and]
  rfl
theorem rqF_B (r : Rq) : fdB (rqF r) = askB r := by
  show encR asks 4 ++ (encR (rqK r).toNat 1 ++ (encR (rqC r).toNat 1 ++ (encR (rqH r).toNat 2 ++ (encR (rqA r).toNat 4 ++ (encR (rqL r).toNat 4 ++ []))))) = _
  rw [List.append_nil]
  rfl
theorem ask_ok (r : Rq) (hf : rqFit r = true) (hk : kindOK (rqK r) = true) : Fn Tryz.prog 8 [rqV r] [] [1001] (.tup [.one (.own 1001), .one (.d (.int .i64 0))]) (byR 1001 (askB r)) := by
  have hp := eput_fn (rqF r) (rqF_W r) (by simp) ((rqF_ok r).trans hf)
  rw [rqF_B] at hp
  have hr := eright_fn (rqK r)
  rw [hk] at hr
  refine Fn.of tblOK [] _ _ _ _ _ Tryz.func8 rfl rfl (by kernel_rfl) (by kernel_rfl) rfl (drawOK tblOK) rfl ?_
  refine ⟨rfl, ?_⟩
  refine ⟨_, _, _, _, hp, trivial, rfl, ?_⟩
  refine ⟨fun _ => ?_, fun h => absurd h (by decide)⟩
  refine ⟨_, _, _, _, hr, trivial, rfl, ?_⟩
  refine ⟨_, _, _, _, eform_ok (askB r), ⟨rfl, trivial⟩, rfl, ?_⟩
  exact ⟨_, _, _, Le.refl _ _, rfl, ⟨rfl, rfl, trivial⟩, ⟨rfl, trivial⟩, rfl⟩
theorem ask_no (r : Rq) (hf : (rqFit r && kindOK (rqK r)) = false) : Fn Tryz.prog 8 [rqV r] [] [] (.tup [.one .nils, .one (.d (.int .i64 200))]) [] := by
  rcases Bool.eq_false_or_eq_true (rqFit r) with h1 | h1
  · have hk : kindOK (rqK r) = false := by rw [h1] at hf; exact hf
    have hp := eput_fn (rqF r) (rqF_W r) (by simp) ((rqF_ok r).trans h1)
    rw [rqF_B] at hp
    have hr := eright_fn (rqK r)
    rw [hk] at hr
    refine Fn.of tblOK [] _ _ _ _ _ Tryz.func8 rfl rfl (by kernel_rfl) (by kernel_rfl) rfl (drawOK tblOK) rfl ?_
    refine ⟨rfl, ?_⟩
    refine ⟨_, _, _, _, hp, trivial, rfl, ?_⟩
    refine ⟨fun _ => ?_, fun h => absurd h (by decide)⟩
    refine ⟨_, _, _, _, hr, trivial, rfl, ?_⟩
    refine ⟨_, _, _, _, eform_no (askB r), ⟨rfl, trivial⟩, rfl, ?_⟩
    exact ⟨_, _, _, Le.refl _ _, rfl, ⟨rfl, rfl, trivial⟩, trivial, rfl⟩
  · have hp := eput_no (rqF r) (rqF_W r) (by simp) ((rqF_ok r).trans h1)
    refine Fn.of tblOK [] _ _ _ _ _ Tryz.func8 rfl rfl (by kernel_rfl) (by kernel_rfl) rfl (drawOK tblOK) rfl ?_
    refine ⟨rfl, ?_⟩
    refine ⟨_, _, _, _, hp, trivial, rfl, ?_⟩
    refine ⟨fun h => absurd h (by decide), fun _ => ?_⟩
    refine ⟨_, _, _, _, Fn.arg eform_nil ⟨rfl, rfl, trivial⟩, trivial, rfl, ?_⟩
    exact ⟨_, _, _, Le.refl _ _, rfl, ⟨rfl, rfl, trivial⟩, trivial, rfl⟩
/-! ### Hear -/
@[reducible] def rrN (n : Nat) (st : St) : BL := [(n, .cells [.d (.lst .u8 st.1), .d (.int .i64 st.2)])]
set_option maxHeartbeats 1000000 in
theorem hear_fn (s : List UInt8) (hs : s.length ≤ 4294967296) : Fn Tryz.prog 12 [vL .u8 s] [] [] (.tup [.agg (rqS (rqOr (hearOK s) (hearR s))), .one (.d (.int .i64 (e200 (hearOK s))))]) [] := by
  have h1 := num_spec (s, 0) 4 (by unfold W; simp)
  have h2 := num_spec (q1 s).1 1 (by unfold W; simp)
  have h3 := num_spec (q2 s).1 1 (by unfold W; simp)
  have h4 := num_spec (q3 s).1 2 (by unfold W; simp)
  have h5 := num_spec (q4 s).1 4 (by unfold W; simp)
  have h6 := num_spec (q5 s).1 4 (by unfold W; simp)
  have he := end_spec (q6 s).1
  have hr := eright_fn ((q2 s).2 : Int)
  have hok : hearOK s = (decide (endE (q6 s).1 = 0) && (decide (((q1 s).2 : Int) = 1886286962) && kindOK ((q2 s).2 : Int))) := by
    unfold hearOK
    congr 2
    exact decide_eq_decide.2 (by unfold asks; omega)
  have hR : hearR s = (((q2 s).2 : Int), ((q3 s).2 : Int), ((q4 s).2 : Int), ((q5 s).2 : Int), ((q6 s).2 : Int)) := rfl
  rw [hok, hR]
  change Fn _ _ _ _ _ (vI ((q1 s).2 : Nat)) (rrB (q1 s).1) at h1
  change Fn _ _ _ _ _ (vI ((q2 s).2 : Nat)) (rrB (q2 s).1) at h2
  change Fn _ _ _ _ _ (vI ((q3 s).2 : Nat)) (rrB (q3 s).1) at h3
  change Fn _ _ _ _ _ (vI ((q4 s).2 : Nat)) (rrB (q4 s).1) at h4
  change Fn _ _ _ _ _ (vI ((q5 s).2 : Nat)) (rrB (q5 s).1) at h5
  change Fn _ _ _ _ _ (vI ((q6 s).2 : Nat)) (rrB (q6 s).1) at h6
  clear hok hR
  generalize q1 s = a1 at *
  generalize q2 s = a2 at *
  generalize q3 s = a3 at *
  generalize q4 s = a4 at *
  generalize q5 s = a5 at *
  generalize q6 s = a6 at *
  obtain ⟨s1, n1⟩ := a1
  obtain ⟨s2, n2⟩ := a2
  obtain ⟨s3, n3⟩ := a3
  obtain ⟨s4, n4⟩ := a4
  obtain ⟨s5, n5⟩ := a5
  obtain ⟨s6, n6⟩ := a6
  simp only at h1 h2 h3 h4 h5 h6 he hr ⊢
  refine Fn.of tblOK [] _ _ _ _ _ Tryz.func12 rfl rfl (by kernel_rfl) (by kernel_rfl) rfl (drawOK tblOK) rfl ?_
  refine ⟨rfl, ?_⟩
  refine ⟨_, _, _, _, newReader_spec s hs, trivial, rfl, ?_⟩
  refine ⟨_, _, _, _, h1, ⟨rfl, trivial⟩, rfl, ?_⟩
  refine ⟨_, _, _, _, h2, ⟨rfl, trivial⟩, rfl, ?_⟩
  refine ⟨_, _, _, _, h3, ⟨rfl, trivial⟩, rfl, ?_⟩
  refine ⟨_, _, _, _, h4, ⟨rfl, trivial⟩, rfl, ?_⟩
  refine ⟨_, _, _, _, h5, ⟨rfl, trivial⟩, rfl, ?_⟩
  refine ⟨_, _, _, _, h6, ⟨rfl, trivial⟩, rfl, ?_⟩
  refine ⟨rfl, ?_⟩
  refine ⟨_, _, _, _, he, ⟨rfl, trivial⟩, rfl, ?_⟩
  refine ⟨fun h => ?_, fun h => ?_⟩
  · have h : decide (endE s6 = 0) = true := h
    rw [h]
    refine ⟨fun g => ?_, fun g => ?_⟩
    · have g : decide ((n1 : Int) = 1886286962) = true := g
      rw [g]
      refine ⟨_, _, _, _, hr, trivial, rfl, ?_⟩
      refine ⟨_, _, _, _, form_rq (n2, n3, n4, n5, n6) (kindOK (n2 : Int)), trivial, rfl, ?_⟩
      refine ⟨indep_of (by kernel_rfl), ?_⟩
      exact ⟨_, _, _, Le.refl _ _, rfl, ⟨⟨rfl, rfl, rfl, rfl, rfl, trivial⟩, rfl, trivial⟩, trivial, rfl⟩
    · have g : decide ((n1 : Int) = 1886286962) = false := g
      rw [g]
      refine ⟨_, _, _, _, Fn.arg (form_rq (n2, n3, n4, n5, n6) false) ⟨⟨rfl, rfl, rfl, rfl, rfl, trivial⟩, rfl, trivial⟩, trivial, rfl, ?_⟩
      refine ⟨indep_of (by kernel_rfl), ?_⟩
      exact ⟨_, _, _, Le.refl _ _, rfl, ⟨⟨rfl, rfl, rfl, rfl, rfl, trivial⟩, rfl, trivial⟩, trivial, rfl⟩
  · have h : decide (endE s6 = 0) = false := h
    rw [h]
    refine ⟨_, _, _, _, Fn.arg (form_rq (n2, n3, n4, n5, n6) false) ⟨⟨rfl, rfl, rfl, rfl, rfl, trivial⟩, rfl, trivial⟩, trivial, rfl, ?_⟩
    refine ⟨indep_of (by kernel_rfl), ?_⟩
    exact ⟨_, _, _, Le.refl _ _, rfl, ⟨⟨rfl, rfl, rfl, rfl, rfl, trivial⟩, rfl, trivial⟩, trivial, rfl⟩
/-! Export: Tell, Left, Replies. -/
@[reducible] def rpS (e h : Int) (b : List UInt8) : List S1 := [.d (.int .i64 e), .d (.int .i64 h), .d (.lst .u8 b)]
@[reducible] def rpA (e h : Int) (b : List UInt8) : SV := .c (.agg (rpS e h b))
@[reducible] def rpF (e h : Int) (n : Nat) : List Fd := [(4, 1886286945), (2, e), (2, h), (4, (n : Int))]
theorem rpF_W (e h : Int) (n : Nat) : ∀ f, f ∈ rpF e h n → W f.1 := by
  intro f hf
  simp only [rpF, List.mem_cons, List.not_mem_nil, or_false] at hf
  unfold W
  rcases hf with rfl | rfl | rfl | rfl <;> simp
theorem rpF_ok (e h : Int) (b : List UInt8) : fdOK (rpF e h b.length) = tellOK e h b := by
  show (fit 4 1886286945 && (fit 2 e && (fit 2 h && (fit 4 ((b.length : Nat) : Int) && true)))) = _
  rw [show fit 4 1886286945 = true from rfl, Bool.and_true, Bool.true_and]
  rfl
theorem rpF_B (e h : Int) (b : List UInt8) : fdB (rpF e h b.length) ++ b = tellB e h b := by
  show (encR tells 4 ++ (encR e.toNat 2 ++ (encR h.toNat 2 ++ (encR b.length 4 ++ [])))) ++ b = encR tells 4 ++ (encR e.toNat 2 ++ (encR h.toNat 2 ++ (encR b.length 4 ++ b)))
  simp only [List.append_assoc, List.append_nil]
theorem tell_ok (e h : Int) (b : List UInt8) (hb : b.length ≤ 1000000000) (hf : tellOK e h b = true) : Fn Tryz.prog 10 [rpA e h b] [] [1001] (.tup [.one (.own 1001), .one (.d (.int .i64 0))]) (byR 1001 (tellB e h b)) := by
  have hp := eput_fn (rpF e h b.length) (rpF_W e h b.length) (by simp) ((rpF_ok e h b).trans hf)
  have hB := rpF_B e h b
  have hl := fdB_len (rpF_W e h b.length)
  have hl : (fdB (rpF e h b.length)).length ≤ 16 := hl
  generalize fdB (rpF e h b.length) = x at *
  have hl2 : x.length + b.length ≤ 4294967296 := by omega
  rw [← hB]
  refine Fn.of tblOK [] _ _ _ _ _ Tryz.func10 rfl rfl (by kernel_rfl) (by kernel_rfl) rfl (drawOK tblOK) rfl ?_
  refine ⟨rfl, ?_⟩
  refine ⟨_, _, _, _, Fn.ren [(1001, 5001)] hp, trivial, rfl, ?_⟩
  refine ⟨hl2, rfl, ?_⟩
  refine ⟨_, _, _, _, Fn.ren [(1001, 25)] (eform_ok (x ++ b)), ⟨rfl, trivial⟩, rfl, ?_⟩
  exact ⟨_, _, _, Le.ren 25 1001 rfl, rfl, ⟨rfl, rfl, trivial⟩, ⟨rfl, trivial⟩, rfl⟩
theorem tell_no (e h : Int) (b : List UInt8) (hb : b.length ≤ 1000000000) (hf : tellOK e h b = false) : Fn Tryz.prog 10 [rpA e h b] [] [] (.tup [.one .nils, .one (.d (.int .i64 200))]) [] := by
  have hb2 : b.length ≤ 4294967296 := by omega
  have hp := eput_no (rpF e h b.length) (rpF_W e h b.length) (by simp) ((rpF_ok e h b).trans hf)
  refine Fn.of tblOK [] _ _ _ _ _ Tryz.func10 rfl rfl (by kernel_rfl) (by kernel_rfl) rfl (drawOK tblOK) rfl ?_
  refine ⟨rfl, ?_⟩
  refine ⟨_, _, _, _, hp, trivial, rfl, ?_⟩
  refine ⟨hb2, rfl, ?_⟩
  refine ⟨_, _, _, _, Fn.ren [(1001, 25)] (eform_no b), ⟨rfl, trivial⟩, rfl, ?_⟩
  exact ⟨_, _, _, Le.refl _ _, rfl, ⟨rfl, rfl, trivial⟩, trivial, rfl⟩
theorem left_fn (st : St) : Fn Tryz.prog 43 [vP 1001] (rrB st) [] (vI (st.1.length : Nat)) (rrB st) := by
  obtain ⟨s, e⟩ := st
  refine Fn.of tblOK [] _ _ _ _ _ Tryz.func43 rfl rfl (by kernel_rfl) (by kernel_rfl) rfl (drawOK tblOK) rfl ?_
  exact ⟨_, _, _, Le.refl _ _, rfl, rfl, ⟨rfl, trivial⟩, rfl⟩
/-! ### Replies, plain -/
theorem rp_len {st : St} (h : rpOK st = true) : (t4 st).1.1.length < st.1.length := by
  unfold rpOK at h
  simp only [Bool.and_eq_true, decide_eq_true_iff] at h
  obtain ⟨a1, a2⟩ := rdT_back (w := 4) (st := (t3 st).1) h.1
  obtain ⟨b1, b2⟩ := rdN_back (w := 2) (st := (t2 st).1) a1
  obtain ⟨c1, c2⟩ := rdN_back (w := 2) (st := (t1 st).1) b1
  obtain ⟨d1, d2⟩ := rdN_back (w := 4) (st := st) c1
  have a3 := congrArg List.length a2
  have b3 := congrArg List.length b2
  have c3 := congrArg List.length c2
  have d3 := congrArg List.length d2
  rw [List.length_append, encT_length] at a3
  rw [List.length_append, encR_length] at b3 c3 d3
  change _ = 2 + (t3 st).1.1.length at b3
  change _ = 2 + (t2 st).1.1.length at c3
  change _ = 4 + (t1 st).1.1.length at d3
  change _ = 4 + _ + (t4 st).1.1.length at a3
  omega
theorem tkX_len (n : Nat) (st : St) : (tkX n st).length ≤ st.1.length := by
  unfold tkX
  split
  · exact Nat.zero_le _
  · rw [List.length_take]; omega
theorem tkS_len (n : Nat) (st : St) : (tkS n st).1.length ≤ st.1.length := by
  unfold tkS
  split
  · exact Nat.le_refl _
  · split
    · exact Nat.le_refl _
    · rw [List.length_drop]; omega
theorem t4_len (st : St) : (t4 st).2.length ≤ st.1.length :=
  Nat.le_trans (tkX_len _ _) (Nat.le_trans (tkS_len _ _) (Nat.le_trans (tkS_len _ _) (Nat.le_trans (tkS_len _ _) (tkS_len _ _))))
theorem rpl_step {n : Nat} {st : St} {acc l : List Rp} (hn : st.1.length < n) (hp : 0 < st.1.length) (h : (rplL n st).map (acc ++ ·) = some l) :
    rpOK st = true ∧ ∃ m, n = m + 1 ∧ (t4 st).1.1.length < m ∧ (rplL m (t4 st).1).map ((acc ++ [rpV st]) ++ ·) = some l := by
  obtain ⟨m, rfl⟩ : ∃ m, n = m + 1 := ⟨n - 1, by omega⟩
  have hne : ¬ st.1 = [] := fun e => by rw [e] at hp; exact absurd hp (by decide)
  unfold rplL at h
  rw [if_neg hne] at h
  by_cases hk : rpOK st = true
  · rw [if_pos hk, Option.map_map] at h
    have := rp_len hk
    refine ⟨hk, m, rfl, by omega, ?_⟩
    rw [← h]
    congr 1
    funext x
    simp
  · rw [if_neg hk] at h
    cases h
theorem rpl_end {n : Nat} {st : St} {acc l : List Rp} (hp : st.1.length = 0) (h : (rplL n st).map (acc ++ ·) = some l) : acc = l := by
  have hne : st.1 = [] := List.eq_nil_of_length_eq_zero hp
  have e : rplL n st = some [] := by
    cases n with
    | zero => rfl
    | succ n => unfold rplL; rw [if_pos hne]
  rw [e] at h
  simpa using h
theorem rpl_no {n : Nat} {st : St} (hn : st.1.length < n) (hp : 0 < st.1.length) (h : rplL n st = none) :
    rpOK st = true → ∃ m, n = m + 1 ∧ (t4 st).1.1.length < m ∧ rplL m (t4 st).1 = none := by
  intro hk
  obtain ⟨m, rfl⟩ : ∃ m, n = m + 1 := ⟨n - 1, by omega⟩
  have hne : ¬ st.1 = [] := fun e => by rw [e] at hp; exact absurd hp (by decide)
  unfold rplL at h
  rw [if_neg hne, if_pos hk] at h
  have := rp_len hk
  exact ⟨m, rfl, by omega, by simpa using h⟩
theorem rpl_some {n : Nat} {st : St} (hp : st.1.length = 0) : rplL n st ≠ none := by
  have hne : st.1 = [] := List.eq_nil_of_length_eq_zero hp
  cases n with
  | zero => exact fun h => by cases h
  | succ n => unfold rplL; rw [if_pos hne]; exact fun h => by cases h
/-! ### Replies -/
@[reducible] def rpB (acc : List (El uRp)) (st : St) : BL := [(5001, .row 36 uRp acc), (5002, .cells [.d (.lst .u8 st.1), .d (.int .i64 st.2)])]
@[reducible] def rpB2 (acc : List (El uRp)) (st : St) : BL := [(33, .row 36 uRp acc), (5002, .cells [.d (.lst .u8 st.1), .d (.int .i64 st.2)])]
set_option maxHeartbeats 1000000 in
theorem replies_ok (s : List UInt8) (l : List Rp) (hs : s.length ≤ 100000) (hr : rplL (s.length + 1) (s, 0) = some l) : Fn Tryz.prog 29 [vL .u8 s] [] [1001] (.tup [.one (.own 1001), .one (.d (.int .i64 0))]) [(1001, .row 36 uRp l)] := by
  refine Fn.of tblOK [] _ _ _ _ _ Tryz.func29 rfl rfl (by kernel_rfl) (by kernel_rfl) rfl (drawOK tblOK) rfl ?_
  refine ⟨_, _, _, _, Fn.ren [(1001, 5002)] (newReader_spec s (by omega)), trivial, rfl, ?_⟩
  show TrQ _ _ _ _ _ _ _
  refine TrQ.loop tblOK (drawOK tblOK) [] (by kernel_rfl) (X := List Rp × St × Nat) (fun _ => [(4, vOwn 5001), (5, vP 5002)]) (fun x => rpB x.1 x.2.1) (fun x => x.2.1.1.length < x.2.2 ∧ x.1.length + x.2.1.1.length ≤ s.length ∧ (rplL x.2.2 x.2.1).map (x.1 ++ ·) = some l) (fun x => x.2.2) ([], (s, 0), s.length + 1) ⟨Nat.lt_succ_self _, (by show 0 + s.length ≤ s.length; omega), by rw [hr]; simp⟩ ?_ ?_
  · exact Le.trans (Le.nil 4 5001 36 uRp rfl rfl) (Le.sub ⟨rfl, rfl, trivial⟩ ⟨rfl, rfl, trivial⟩)
  rintro ⟨acc, st, n⟩ ⟨hn, hlen, hrp⟩
  have hn : st.1.length < n := hn
  have hlen : acc.length + st.1.length ≤ s.length := hlen
  have g0 := left_fn st
  have g1 := num_spec st 4 (by unfold W; simp)
  have g2 := num_spec (t1 st).1 2 (by unfold W; simp)
  have g3 := num_spec (t2 st).1 2 (by unfold W; simp)
  have g4 := text_spec (t3 st).1 4 (by unfold W; simp)
  have g5 := err_spec (t4 st).1
  change Fn _ _ _ _ _ (vI ((t1 st).2 : Nat)) (rrB (t1 st).1) at g1
  change Fn _ _ _ _ _ (vI ((t2 st).2 : Nat)) (rrB (t2 st).1) at g2
  change Fn _ _ _ _ _ (vI ((t3 st).2 : Nat)) (rrB (t3 st).1) at g3
  change Fn _ _ _ _ _ (vS (t4 st).2) (rrB (t4 st).1) at g4
  have hrp : (rplL n st).map (acc ++ ·) = some l := hrp
  have hA := fun hp => rpl_step hn hp hrp
  have hE := fun hp => rpl_end hp hrp
  have hK : rpOK st = (decide ((t4 st).1.2 = 0) && decide (((t1 st).2 : Int) = 1886286945)) := by
    unfold rpOK
    congr 1
    exact decide_eq_decide.2 (by unfold tells; omega)
  have hL := @rp_len st
  have hT := t4_len st
  have hV : rpV st = (((t2 st).2 : Int), ((t3 st).2 : Int), (t4 st).2) := rfl
  rw [hK] at hL hA
  rw [hV] at hA
  clear hK hV hrp
  generalize t1 st = a1 at *
  generalize t2 st = a2 at *
  generalize t3 st = a3 at *
  generalize t4 st = a4 at *
  obtain ⟨s1, n1⟩ := a1
  obtain ⟨s2, n2⟩ := a2
  obtain ⟨s3, n3⟩ := a3
  obtain ⟨⟨s4, e4⟩, b4⟩ := a4
  obtain ⟨s0, e0⟩ := st
  simp only at g0 g1 g2 g3 g4 g5 hA hE hL hn hlen hT
  have hT : b4.length ≤ 4294967296 := by omega
  refine ⟨_, _, _, _, Fn.ren [(1001, 5002)] g0, ⟨rfl, trivial⟩, rfl, ?_⟩
  refine ⟨fun h => ?_, fun h => ?_⟩
  · have hp : 0 < s0.length := by
      have h : decide ((0 : Int) < ((s0.length : Nat) : Int)) = true := h
      have := of_decide_eq_true h
      omega
    have hA := hA hp
    obtain ⟨hb, m, rfl, hm, hrp⟩ := hA
    have hL := hL hb
    rw [Bool.and_eq_true, decide_eq_true_iff, decide_eq_true_iff] at hb
    obtain ⟨rfl, hmg⟩ := hb
    rw [hmg] at g1
    refine ⟨_, _, _, _, Fn.ren [(1001, 5002)] g1, ⟨rfl, trivial⟩, rfl, ?_⟩
    refine ⟨_, _, _, _, Fn.ren [(1001, 5002)] g2, ⟨rfl, trivial⟩, rfl, ?_⟩
    refine ⟨_, _, _, _, Fn.ren [(1001, 5002)] g3, ⟨rfl, trivial⟩, rfl, ?_⟩
    refine ⟨_, _, _, _, Fn.ren [(1001, 5002)] g4, ⟨rfl, trivial⟩, rfl, ?_⟩
    refine ⟨hT, rfl, ?_⟩
    refine ⟨_, _, _, _, Fn.ren [(1001, 5002)] g5, ⟨rfl, trivial⟩, rfl, ?_⟩
    refine ⟨fun h => absurd h (by decide), fun _ => ?_⟩
    refine ⟨fun h => absurd h (by decide), fun _ => ?_⟩
    have hl1 : acc.length + 1 ≤ 4294967296 := by omega
    refine ⟨hl1, rfl, ?_⟩
    exact ⟨(acc ++ [((n2 : Int), (n3 : Int), b4)], (s4, 0), m), ⟨hm, (by show (acc ++ [((n2 : Int), (n3 : Int), b4)]).length + s4.length ≤ s.length; rw [List.length_append]; show acc.length + 1 + s4.length ≤ s.length; omega), hrp⟩, Nat.lt_succ_self m, Le.trans (Le.sub (K' := [(4, vOwn 33), (5, vP 5002)]) (B' := rpB2 (acc ++ [((n2 : Int), (n3 : Int), b4)]) (s4, 0)) ⟨rfl, rfl, trivial⟩ ⟨rfl, rfl, trivial⟩) (Le.trans (Le.ren 33 5001 rfl) (Le.sub ⟨rfl, rfl, trivial⟩ ⟨rfl, rfl, trivial⟩))⟩
  · have hp : s0.length = 0 := by
      have h : decide ((0 : Int) < ((s0.length : Nat) : Int)) = false := h
      have := of_decide_eq_false h
      omega
    have hE := hE hp
    subst hE
    exact ⟨_, _, _, Le.ren 5001 1001 rfl, rfl, ⟨rfl, rfl, trivial⟩, ⟨rfl, trivial⟩, rfl⟩
set_option maxHeartbeats 1000000 in
theorem replies_no (s : List UInt8) (hs : s.length ≤ 100000) (hr : rplL (s.length + 1) (s, 0) = none) : Fn Tryz.prog 29 [vL .u8 s] [] [] (.tup [.one .nils, .one (.d (.int .i64 200))]) [] := by
  refine Fn.of tblOK [] _ _ _ _ _ Tryz.func29 rfl rfl (by kernel_rfl) (by kernel_rfl) rfl (drawOK tblOK) rfl ?_
  refine ⟨_, _, _, _, Fn.ren [(1001, 5002)] (newReader_spec s (by omega)), trivial, rfl, ?_⟩
  show TrQ _ _ _ _ _ _ _
  refine TrQ.loop tblOK (drawOK tblOK) [] (by kernel_rfl) (X := List Rp × St × Nat) (fun _ => [(4, vOwn 5001), (5, vP 5002)]) (fun x => rpB x.1 x.2.1) (fun x => x.2.1.1.length < x.2.2 ∧ x.1.length + x.2.1.1.length ≤ s.length ∧ rplL x.2.2 x.2.1 = none) (fun x => x.2.2) ([], (s, 0), s.length + 1) ⟨Nat.lt_succ_self _, (by show 0 + s.length ≤ s.length; omega), hr⟩ ?_ ?_
  · exact Le.trans (Le.nil 4 5001 36 uRp rfl rfl) (Le.sub ⟨rfl, rfl, trivial⟩ ⟨rfl, rfl, trivial⟩)
  rintro ⟨acc, st, n⟩ ⟨hn, hlen, hrp⟩
  have hn : st.1.length < n := hn
  have hlen : acc.length + st.1.length ≤ s.length := hlen
  have g0 := left_fn st
  have g1 := num_spec st 4 (by unfold W; simp)
  have g2 := num_spec (t1 st).1 2 (by unfold W; simp)
  have g3 := num_spec (t2 st).1 2 (by unfold W; simp)
  have g4 := text_spec (t3 st).1 4 (by unfold W; simp)
  have g5 := err_spec (t4 st).1
  change Fn _ _ _ _ _ (vI ((t1 st).2 : Nat)) (rrB (t1 st).1) at g1
  change Fn _ _ _ _ _ (vI ((t2 st).2 : Nat)) (rrB (t2 st).1) at g2
  change Fn _ _ _ _ _ (vI ((t3 st).2 : Nat)) (rrB (t3 st).1) at g3
  change Fn _ _ _ _ _ (vS (t4 st).2) (rrB (t4 st).1) at g4
  have hrp : rplL n st = none := hrp
  have hA := fun hp => rpl_no hn hp hrp
  have hE := fun hp => rpl_some (n := n) (st := st) hp hrp
  have hK : rpOK st = (decide ((t4 st).1.2 = 0) && decide (((t1 st).2 : Int) = 1886286945)) := by
    unfold rpOK
    congr 1
    exact decide_eq_decide.2 (by unfold tells; omega)
  have hL := @rp_len st
  have hT := t4_len st
  have hV : rpV st = (((t2 st).2 : Int), ((t3 st).2 : Int), (t4 st).2) := rfl
  rw [hK] at hL hA
  clear hK hV hrp
  generalize t1 st = a1 at *
  generalize t2 st = a2 at *
  generalize t3 st = a3 at *
  generalize t4 st = a4 at *
  obtain ⟨s1, n1⟩ := a1
  obtain ⟨s2, n2⟩ := a2
  obtain ⟨s3, n3⟩ := a3
  obtain ⟨⟨s4, e4⟩, b4⟩ := a4
  obtain ⟨s0, e0⟩ := st
  simp only at g0 g1 g2 g3 g4 g5 hA hE hL hn hlen hT
  have hT : b4.length ≤ 4294967296 := by omega
  refine ⟨_, _, _, _, Fn.ren [(1001, 5002)] g0, ⟨rfl, trivial⟩, rfl, ?_⟩
  refine ⟨fun h => ?_, fun h => ?_⟩
  · have hp : 0 < s0.length := by
      have h : decide ((0 : Int) < ((s0.length : Nat) : Int)) = true := h
      have := of_decide_eq_true h
      omega
    have hA := hA hp
    refine ⟨_, _, _, _, Fn.ren [(1001, 5002)] g1, ⟨rfl, trivial⟩, rfl, ?_⟩
    refine ⟨_, _, _, _, Fn.ren [(1001, 5002)] g2, ⟨rfl, trivial⟩, rfl, ?_⟩
    refine ⟨_, _, _, _, Fn.ren [(1001, 5002)] g3, ⟨rfl, trivial⟩, rfl, ?_⟩
    refine ⟨_, _, _, _, Fn.ren [(1001, 5002)] g4, ⟨rfl, trivial⟩, rfl, ?_⟩
    refine ⟨hT, rfl, ?_⟩
    refine ⟨_, _, _, _, Fn.ren [(1001, 5002)] g5, ⟨rfl, trivial⟩, rfl, ?_⟩
    refine ⟨fun h => ?_, fun h => ?_⟩
    · exact ⟨_, _, _, Le.refl _ _, rfl, ⟨rfl, rfl, trivial⟩, trivial, rfl⟩
    have h : (!decide (e4 = 0)) = false := h
    have he : e4 = 0 := by simpa using h
    subst he
    refine ⟨fun h => ?_, fun h => ?_⟩
    · exact ⟨_, _, _, Le.refl _ _, rfl, ⟨rfl, rfl, trivial⟩, trivial, rfl⟩
    have h : (!decide ((n1 : Int) = 1886286945)) = false := h
    have hmg : (n1 : Int) = 1886286945 := by simpa using h
    rw [hmg] at hA hL
    obtain ⟨m, rfl, hm, hrp⟩ := hA rfl
    have hL := hL rfl
    have hl1 : acc.length + 1 ≤ 4294967296 := by omega
    refine ⟨hl1, rfl, ?_⟩
    exact ⟨(acc ++ [((n2 : Int), (n3 : Int), b4)], (s4, 0), m), ⟨hm, (by show (acc ++ [((n2 : Int), (n3 : Int), b4)]).length + s4.length ≤ s.length; rw [List.length_append]; show acc.length + 1 + s4.length ≤ s.length; omega), hrp⟩, Nat.lt_succ_self m, Le.trans (Le.sub (K' := [(4, vOwn 33), (5, vP 5002)]) (B' := rpB2 (acc ++ [((n2 : Int), (n3 : Int), b4)]) (s4, 0)) ⟨rfl, rfl, trivial⟩ ⟨rfl, rfl, trivial⟩) (Le.trans (Le.ren 33 5001 rfl) (Le.sub ⟨rfl, rfl, trivial⟩ ⟨rfl, rfl, trivial⟩))⟩
  · have hp : s0.length = 0 := by
      have h : decide ((0 : Int) < ((s0.length : Nat) : Int)) = false := h
      have := of_decide_eq_false h
      omega
    exact (hE hp).elim
/-! Export: Extents. -/
@[reducible] def uXt : U := .pr (.int .i64) (.pr (.int .i64) (.int .i64))
abbrev Xt3 := Int × Int × Int
def x1 (st : St) := rdN 4 st
def x2 (st : St) := rdN 1 (x1 st).1
/-- What Extents tells, so many at most. -/
def xtL : Nat → Int → St → Option (List Xt3)
  | 0, _, _ => some []
  | n + 1, a, st => if st.1 = [] then some [] else if (x2 st).1.2 = 0 then (xtL n (a + ((x1 st).2 : Int)) (x2 st).1).map ((a, ((x1 st).2 : Int), ((x2 st).2 : Int)) :: ·) else none
theorem xt_len {st : St} (h : (x2 st).1.2 = 0) : (x2 st).1.1.length + 5 = st.1.length := by
  obtain ⟨a1, a2⟩ := rdN_back (w := 1) (st := (x1 st).1) h
  obtain ⟨b1, b2⟩ := rdN_back (w := 4) (st := st) a1
  have a3 := congrArg List.length a2
  have b3 := congrArg List.length b2
  rw [List.length_append, encR_length] at a3 b3
  change _ = 1 + (x2 st).1.1.length at a3
  change _ = 4 + (x1 st).1.1.length at b3
  omega
theorem xtL_step {n : Nat} {a : Int} {st : St} {acc l : List Xt3} (hn : st.1.length < n) (hp : 0 < st.1.length) (h : (xtL n a st).map (acc ++ ·) = some l) :
    (x2 st).1.2 = 0 ∧ ∃ m, n = m + 1 ∧ (x2 st).1.1.length < m ∧ (xtL m (a + ((x1 st).2 : Int)) (x2 st).1).map ((acc ++ [(a, ((x1 st).2 : Int), ((x2 st).2 : Int))]) ++ ·) = some l := by
  obtain ⟨m, rfl⟩ : ∃ m, n = m + 1 := ⟨n - 1, by omega⟩
  have hne : ¬ st.1 = [] := fun e => by rw [e] at hp; exact absurd hp (by decide)
  unfold xtL at h
  rw [if_neg hne] at h
  by_cases hk : (x2 st).1.2 = 0
  · rw [if_pos hk, Option.map_map] at h
    have := xt_len hk
    refine ⟨hk, m, rfl, by omega, ?_⟩
    rw [← h]
    congr 1
    funext x
    simp
  · rw [if_neg hk] at h
    cases h
theorem xtL_end {n : Nat} {a : Int} {st : St} {acc l : List Xt3} (hp : st.1.length = 0) (h : (xtL n a st).map (acc ++ ·) = some l) : acc = l := by
  have hne : st.1 = [] := List.eq_nil_of_length_eq_zero hp
  have e : xtL n a st = some [] := by
    cases n with
    | zero => rfl
    | succ n => unfold xtL; rw [if_pos hne]
  rw [e] at h
  simpa using h
theorem xtL_no {n : Nat} {a : Int} {st : St} (hn : st.1.length < n) (hp : 0 < st.1.length) (h : xtL n a st = none) :
    (x2 st).1.2 = 0 → ∃ m, n = m + 1 ∧ (x2 st).1.1.length < m ∧ xtL m (a + ((x1 st).2 : Int)) (x2 st).1 = none := by
  intro hk
  obtain ⟨m, rfl⟩ : ∃ m, n = m + 1 := ⟨n - 1, by omega⟩
  have hne : ¬ st.1 = [] := fun e => by rw [e] at hp; exact absurd hp (by decide)
  unfold xtL at h
  rw [if_neg hne, if_pos hk] at h
  have := xt_len hk
  exact ⟨m, rfl, by omega, by simpa using h⟩
theorem xtL_some {n : Nat} {a : Int} {st : St} (hp : st.1.length = 0) : xtL n a st ≠ none := by
  have hne : st.1 = [] := List.eq_nil_of_length_eq_zero hp
  cases n with
  | zero => exact fun h => by cases h
  | succ n => unfold xtL; rw [if_pos hne]; exact fun h => by cases h
theorem x1_lt (st : St) : (x1 st).2 < 4294967296 := by
  have h := decN_lt (tkX 4 st)
  have h2 := tkX_length 4 st
  exact Nat.lt_of_lt_of_le h (Nat.le_trans (Nat.pow_le_pow_right (by decide) h2) (by decide))
/-! ### Extents -/
@[reducible] def xtB (acc : List (El uXt)) (st : St) : BL := [(5001, .row 79 uXt acc), (5002, .cells [.d (.lst .u8 st.1), .d (.int .i64 st.2)])]
@[reducible] def xtB2 (acc : List (El uXt)) (st : St) : BL := [(25, .row 79 uXt acc), (5002, .cells [.d (.lst .u8 st.1), .d (.int .i64 st.2)])]
set_option maxHeartbeats 1000000 in
theorem exts_ok (s : List UInt8) (l : List Xt3) (hs : s.length ≤ 100000) (hr : xtL (s.length + 1) 0 (s, 0) = some l) : Fn Tryz.prog 15 [vL .u8 s] [] [1001] (.tup [.one (.own 1001), .one (.d (.int .i64 0))]) [(1001, .row 79 uXt l)] := by
  refine Fn.of tblOK [] _ _ _ _ _ Tryz.func15 rfl rfl (by kernel_rfl) (by kernel_rfl) rfl (drawOK tblOK) rfl ?_
  refine ⟨_, _, _, _, Fn.ren [(1001, 5002)] (newReader_spec s (by omega)), trivial, rfl, ?_⟩
  show TrQ _ _ _ _ _ _ _
  refine TrQ.loop tblOK (drawOK tblOK) [] (by kernel_rfl) (X := List Xt3 × Int × St × Nat) (fun x => [(4, vOwn 5001), (5, vP 5002), (6, vI x.2.1)]) (fun x => xtB x.1 x.2.2.1) (fun x => x.2.2.1.1.length < x.2.2.2 ∧ x.1.length + x.2.2.1.1.length ≤ s.length ∧ (0 ≤ x.2.1 ∧ x.2.1 ≤ 4294967296 * (x.1.length : Int)) ∧ (xtL x.2.2.2 x.2.1 x.2.2.1).map (x.1 ++ ·) = some l) (fun x => x.2.2.2) ([], 0, (s, 0), s.length + 1) ⟨Nat.lt_succ_self _, (by show 0 + s.length ≤ s.length; omega), ⟨Int.le_refl 0, Int.le_refl 0⟩, by rw [hr]; simp⟩ ?_ ?_
  · exact Le.trans (Le.nil 4 5001 79 uXt rfl rfl) (Le.sub ⟨rfl, rfl, rfl, trivial⟩ ⟨rfl, rfl, trivial⟩)
  rintro ⟨acc, a, st, n⟩ ⟨hn, hlen, ha, hrp⟩
  have hn : st.1.length < n := hn
  have hlen : acc.length + st.1.length ≤ s.length := hlen
  have ha : 0 ≤ a ∧ a ≤ 4294967296 * (acc.length : Int) := ha
  have g0 := left_fn st
  have g1 := num_spec st 4 (by unfold W; simp)
  have g2 := num_spec (x1 st).1 1 (by unfold W; simp)
  have g5 := err_spec (x2 st).1
  change Fn _ _ _ _ _ (vI ((x1 st).2 : Nat)) (rrB (x1 st).1) at g1
  change Fn _ _ _ _ _ (vI ((x2 st).2 : Nat)) (rrB (x2 st).1) at g2
  have hx := x1_lt st
  have hrp : (xtL n a st).map (acc ++ ·) = some l := hrp
  have hA := fun hp => xtL_step hn hp hrp
  have hE := fun hp => xtL_end hp hrp
  have hL := @xt_len st
  clear hrp
  generalize x1 st = a1 at *
  generalize x2 st = a2 at *
  obtain ⟨s1, n1⟩ := a1
  obtain ⟨⟨s4, e4⟩, n2⟩ := a2
  obtain ⟨s0, e0⟩ := st
  simp only at g0 g1 g2 g5 hA hE hL hn hlen hx
  refine ⟨_, _, _, _, Fn.ren [(1001, 5002)] g0, ⟨rfl, trivial⟩, rfl, ?_⟩
  refine ⟨fun h => ?_, fun h => ?_⟩
  · have hp : 0 < s0.length := by
      have h : decide ((0 : Int) < ((s0.length : Nat) : Int)) = true := h
      have := of_decide_eq_true h
      omega
    have hA := hA hp
    obtain ⟨rfl, m, rfl, hm, hrp⟩ := hA
    have hL := hL rfl
    refine ⟨_, _, _, _, Fn.ren [(1001, 5002)] g1, ⟨rfl, trivial⟩, rfl, ?_⟩
    refine ⟨_, _, _, _, Fn.ren [(1001, 5002)] g2, ⟨rfl, trivial⟩, rfl, ?_⟩
    refine ⟨rfl, ?_⟩
    refine ⟨_, _, _, _, Fn.ren [(1001, 5002)] g5, ⟨rfl, trivial⟩, rfl, ?_⟩
    refine ⟨fun h => absurd h (by decide), fun _ => ?_⟩
    have hl1 : acc.length + 1 ≤ 4294967296 := by omega
    have hl2 : -9223372036854775808 ≤ a + (n1 : Int) ∧ a + (n1 : Int) ≤ 9223372036854775807 := by omega
    refine ⟨hl1, rfl, hl2, ?_⟩
    have q1 : (acc ++ [(a, (n1 : Int), (n2 : Int))]).length = acc.length + 1 := by rw [List.length_append]; rfl
    exact ⟨(acc ++ [(a, (n1 : Int), (n2 : Int))], a + (n1 : Int), (s4, 0), m), ⟨hm, (by show (acc ++ [(a, (n1 : Int), (n2 : Int))]).length + s4.length ≤ s.length; omega), (by show 0 ≤ a + (n1 : Int) ∧ a + (n1 : Int) ≤ 4294967296 * ((acc ++ [(a, (n1 : Int), (n2 : Int))]).length : Int); rw [q1]; omega), hrp⟩, Nat.lt_succ_self m, Le.trans (Le.sub (K' := [(4, vOwn 25), (5, vP 5002), (6, vI (a + (n1 : Int)))]) (B' := xtB2 (acc ++ [(a, (n1 : Int), (n2 : Int))]) (s4, 0)) ⟨rfl, rfl, rfl, trivial⟩ ⟨rfl, rfl, trivial⟩) (Le.trans (Le.ren 25 5001 rfl) (Le.sub ⟨rfl, rfl, rfl, trivial⟩ ⟨rfl, rfl, trivial⟩))⟩
  · have hp : s0.length = 0 := by
      have h : decide ((0 : Int) < ((s0.length : Nat) : Int)) = false := h
      have := of_decide_eq_false h
      omega
    have hE := hE hp
    subst hE
    exact ⟨_, _, _, Le.ren 5001 1001 rfl, rfl, ⟨rfl, rfl, trivial⟩, ⟨rfl, trivial⟩, rfl⟩
set_option maxHeartbeats 1000000 in
theorem exts_no (s : List UInt8) (hs : s.length ≤ 100000) (hr : xtL (s.length + 1) 0 (s, 0) = none) : Fn Tryz.prog 15 [vL .u8 s] [] [] (.tup [.one .nils, .one (.d (.int .i64 200))]) [] := by
  refine Fn.of tblOK [] _ _ _ _ _ Tryz.func15 rfl rfl (by kernel_rfl) (by kernel_rfl) rfl (drawOK tblOK) rfl ?_
  refine ⟨_, _, _, _, Fn.ren [(1001, 5002)] (newReader_spec s (by omega)), trivial, rfl, ?_⟩
  show TrQ _ _ _ _ _ _ _
  refine TrQ.loop tblOK (drawOK tblOK) [] (by kernel_rfl) (X := List Xt3 × Int × St × Nat) (fun x => [(4, vOwn 5001), (5, vP 5002), (6, vI x.2.1)]) (fun x => xtB x.1 x.2.2.1) (fun x => x.2.2.1.1.length < x.2.2.2 ∧ x.1.length + x.2.2.1.1.length ≤ s.length ∧ (0 ≤ x.2.1 ∧ x.2.1 ≤ 4294967296 * (x.1.length : Int)) ∧ xtL x.2.2.2 x.2.1 x.2.2.1 = none) (fun x => x.2.2.2) ([], 0, (s, 0), s.length + 1) ⟨Nat.lt_succ_self _, (by show 0 + s.length ≤ s.length; omega), ⟨Int.le_refl 0, Int.le_refl 0⟩, hr⟩ ?_ ?_
  · exact Le.trans (Le.nil 4 5001 79 uXt rfl rfl) (Le.sub ⟨rfl, rfl, rfl, trivial⟩ ⟨rfl, rfl, trivial⟩)
  rintro ⟨acc, a, st, n⟩ ⟨hn, hlen, ha, hrp⟩
  have hn : st.1.length < n := hn
  have hlen : acc.length + st.1.length ≤ s.length := hlen
  have ha : 0 ≤ a ∧ a ≤ 4294967296 * (acc.length : Int) := ha
  have g0 := left_fn st
  have g1 := num_spec st 4 (by unfold W; simp)
  have g2 := num_spec (x1 st).1 1 (by unfold W; simp)
  have g5 := err_spec (x2 st).1
  change Fn _ _ _ _ _ (vI ((x1 st).2 : Nat)) (rrB (x1 st).1) at g1
  change Fn _ _ _ _ _ (vI ((x2 st).2 : Nat)) (rrB (x2 st).1) at g2
  have hx := x1_lt st
  have hrp : xtL n a st = none := hrp
  have hA := fun hp => xtL_no hn hp hrp
  have hE := fun hp => xtL_some (n := n) (a := a) (st := st) hp hrp
  have hL := @xt_len st
  clear hrp
  generalize x1 st = a1 at *
  generalize x2 st = a2 at *
  obtain ⟨s1, n1⟩ := a1
  obtain ⟨⟨s4, e4⟩, n2⟩ := a2
  obtain ⟨s0, e0⟩ := st
  simp only at g0 g1 g2 g5 hA hE hL hn hlen hx
  refine ⟨_, _, _, _, Fn.ren [(1001, 5002)] g0, ⟨rfl, trivial⟩, rfl, ?_⟩
  refine ⟨fun h => ?_, fun h => ?_⟩
  · have hp : 0 < s0.length := by
      have h : decide ((0 : Int) < ((s0.length : Nat) : Int)) = true := h
      have := of_decide_eq_true h
      omega
    have hA := hA hp
    refine ⟨_, _, _, _, Fn.ren [(1001, 5002)] g1, ⟨rfl, trivial⟩, rfl, ?_⟩
    refine ⟨_, _, _, _, Fn.ren [(1001, 5002)] g2, ⟨rfl, trivial⟩, rfl, ?_⟩
    refine ⟨rfl, ?_⟩
    refine ⟨_, _, _, _, Fn.ren [(1001, 5002)] g5, ⟨rfl, trivial⟩, rfl, ?_⟩
    refine ⟨fun h => ?_, fun h => ?_⟩
    · exact ⟨_, _, _, Le.refl _ _, rfl, ⟨rfl, rfl, trivial⟩, trivial, rfl⟩
    have h : (!decide (e4 = 0)) = false := h
    have he : e4 = 0 := by simpa using h
    subst he
    obtain ⟨m, rfl, hm, hrp⟩ := hA rfl
    have hL := hL rfl
    have hl1 : acc.length + 1 ≤ 4294967296 := by omega
    have hl2 : -9223372036854775808 ≤ a + (n1 : Int) ∧ a + (n1 : Int) ≤ 9223372036854775807 := by omega
    refine ⟨hl1, rfl, hl2, ?_⟩
    have q1 : (acc ++ [(a, (n1 : Int), (n2 : Int))]).length = acc.length + 1 := by rw [List.length_append]; rfl
    exact ⟨(acc ++ [(a, (n1 : Int), (n2 : Int))], a + (n1 : Int), (s4, 0), m), ⟨hm, (by show (acc ++ [(a, (n1 : Int), (n2 : Int))]).length + s4.length ≤ s.length; omega), (by show 0 ≤ a + (n1 : Int) ∧ a + (n1 : Int) ≤ 4294967296 * ((acc ++ [(a, (n1 : Int), (n2 : Int))]).length : Int); rw [q1]; omega), hrp⟩, Nat.lt_succ_self m, Le.trans (Le.sub (K' := [(4, vOwn 25), (5, vP 5002), (6, vI (a + (n1 : Int)))]) (B' := xtB2 (acc ++ [(a, (n1 : Int), (n2 : Int))]) (s4, 0)) ⟨rfl, rfl, rfl, trivial⟩ ⟨rfl, rfl, trivial⟩) (Le.trans (Le.ren 25 5001 rfl) (Le.sub ⟨rfl, rfl, rfl, trivial⟩ ⟨rfl, rfl, trivial⟩))⟩
  · have hp : s0.length = 0 := by
      have h : decide ((0 : Int) < ((s0.length : Nat) : Int)) = false := h
      have := of_decide_eq_false h
      omega
    exact (hE hp).elim
end Go.Proofs.YtolaecebfkdbcaaGreat
