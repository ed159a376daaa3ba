/-
  Export: read, answer, Serve.
-/
import Derived.Test.YtolaecebfkdbcaaGreatEx
import Derived.Test.YtolaecebfkdbcaaGreatEw
import Derived.Test.YtolaecebfkdbcaaGreatDp
import Derived.Test.YtolaecebfkdbcaaGreatAr
set_option linter.unusedVariables false
set_option linter.unusedSimpArgs false
set_option maxRecDepth 10000
namespace Go.Proofs.YtolaecebfkdbcaaGreat
open Go.RowKit Go.Proofs
@[reducible] def svV (nm : List UInt8) : SV := .c (.agg [.ptr 1001 0, .d (.str nm), .ptr 1005 0])
@[reducible] def svB (bits room : Nat) (L : List Dsk) (o : Ob) : BL := [(1001, .cells (chC bits room)), (1002, .map .str .adr (chE L)), (1003, .obj (.pool (chD L))), (1004, .obj (.pool (chM L))), (1005, .obj o)]
@[reducible] def svR (bits room : Nat) (L : List Dsk) (o : Ob) (b : List UInt8) : BL := [(1001, .cells (chC bits room)), (1002, .map .str .adr (chE L)), (1003, .obj (.pool (chD L))), (1004, .obj (.pool (chM L))), (1005, .obj o), (1009, .row 5 .u8 b)]
def rdA (bits : Nat) (L : List Dsk) (nm : List UInt8) (r : Rq) : List UInt8 × Int := if 64 < rqL r then ([], 201) else rdC bits L nm (rqA r) (rqL r)
theorem rdC_err {bits : Nat} {L : List Dsk} {nm : List UInt8} {a l : Int} (h : (rdC bits L nm a l).2 ≠ 0) : (rdC bits L nm a l).1 = [] := by
  unfold rdC at h ⊢
  split
  · rfl
  · rename_i d hd
    rw [hd] at h
    simp only at h
    split
    · rename_i h2
      rw [if_pos h2] at h
      exact absurd rfl h
    · rfl
theorem rdA_err {bits : Nat} {L : List Dsk} {nm : List UInt8} {r : Rq} (h : (rdA bits L nm r).2 ≠ 0) : (rdA bits L nm r).1 = [] := by
  unfold rdA at h ⊢
  split
  · rfl
  · rename_i h1
    rw [if_neg h1] at h
    exact rdC_err h
theorem srd_fn {bits room : Nat} {L : List Dsk} (h : CS bits room L) (o : Ob) (nm : List UInt8) (r : Rq) : Fn Tryz.prog 92 [svV nm, rqV r] (svB bits room L o) [] (.tup [.one (.d (.lst .u8 (rdA bits L nm r).1)), vErr (rdA bits L nm r).2]) (svB bits room L o) := by
  have hr := chread_fn h nm (rqA r) (rqL r)
  refine Fn.of tblOK [] _ _ _ _ _ Tryz.func92 rfl rfl (by kernel_rfl) (by kernel_rfl) rfl (drawOK tblOK) rfl ?_
  refine ⟨rfl, rfl, ?_⟩
  refine ⟨fun hc => ?_, fun hc => ?_⟩
  · have hc : decide ((64 : Int) < rqL r) = true := hc
    have e : rdA bits L nm r = ([], 201) := by unfold rdA; rw [if_pos (of_decide_eq_true hc)]
    rw [e]
    exact ⟨_, _, _, Le.refl _ _, rfl, ⟨rfl, rfl, trivial⟩, ⟨rfl, rfl, rfl, rfl, rfl, trivial⟩, rfl⟩
  · have hc : decide ((64 : Int) < rqL r) = false := hc
    have e : rdA bits L nm r = rdC bits L nm (rqA r) (rqL r) := by unfold rdA; rw [if_neg (of_decide_eq_false hc)]
    rw [← e] at hr
    refine ⟨_, _, _, _, hr, ⟨rfl, rfl, rfl, rfl, trivial⟩, rfl, ?_⟩
    exact ⟨_, _, _, Le.refl _ _, rfl, ⟨rfl, rfl, trivial⟩, ⟨rfl, rfl, rfl, rfl, rfl, trivial⟩, rfl⟩
/-! ### answer -/
def srvF (k f : Nat) : Prop := (k = 1 ∧ f = 92) ∨ (k = 2 ∧ f = 93) ∨ (k = 3 ∧ f = 94)
@[reducible] def wy1 : List (El uI × El .fn) := mput (ku := uI) (vu := .fn) [] (1 : Int) (92, [])
@[reducible] def wy2 : List (El uI × El .fn) := mput (ku := uI) (vu := .fn) wy1 (2 : Int) (93, [])
@[reducible] def wy3 : List (El uI × El .fn) := mput (ku := uI) (vu := .fn) wy2 (3 : Int) (94, [])
theorem wy3_get {k f : Nat} (h : srvF k f) : mget (ku := uI) (vu := .fn) wy3 ((k : Nat) : Int) = some (f, []) := by
  rcases h with ⟨rfl, rfl⟩ | ⟨rfl, rfl⟩ | ⟨rfl, rfl⟩ <;> rfl
set_option maxHeartbeats 1000000 in
theorem answer_fn {bits room : Nat} {L : List Dsk} {o : Ob} {nm : List UInt8} {k f : Nat} (hf : srvF k f) {c h a l e : Int} {x : List UInt8}
    (hx : Fn Tryz.prog f [svV nm, rqV ((k : Int), c, h, a, l)] (svB bits room L o) [] (.tup [.one (.d (.lst .u8 x)), vErr e]) (svB bits room L o)) (hx0 : e ≠ 0 → x = []) (hl : x.length ≤ 1000000000) (hT : tellOK e h x = true) :
    Fn Tryz.prog 58 [svV nm, rqV ((k : Int), c, h, a, l)] (svB bits room L o) [1009] (vOwn 1009) (svR bits room L o (tellB e h x)) := by
  have hg := wy3_get hf
  have ht := tell_ok e h x hl hT
  refine Fn.of tblOK [] _ _ _ _ _ Tryz.func58 rfl rfl (by kernel_rfl) (by kernel_rfl) rfl (drawOK tblOK) rfl ?_
  refine ⟨rfl, rfl, ?_⟩
  refine ⟨rfl, ?_⟩
  refine ⟨_, _, fun N => opOK_insFn0 (ch' := .map uI .fn wy1) rfl Tryz.underlying182 Tryz.underlying3 rfl rfl rfl rfl (.inl rfl) (.inl rfl) N, rfl, ?_⟩
  refine ⟨_, _, fun N => opOK_insFn0 (ch' := .map uI .fn wy2) rfl Tryz.underlying182 Tryz.underlying3 rfl rfl rfl rfl (.inl rfl) (.inl rfl) N, rfl, ?_⟩
  refine ⟨_, _, fun N => opOK_insFn0 (ch' := .obj (wayO wy3)) rfl Tryz.underlying182 Tryz.underlying3 rfl rfl rfl rfl (.inl rfl) (.inr rfl) N, rfl, ?_⟩
  refine ⟨_, _, fun N => opOK_getFn1 rfl Tryz.underlying182 Tryz.underlying3 rfl rfl rfl hg N, rfl, ?_⟩
  refine ⟨_, _, _, _, hx, ⟨rfl, rfl, rfl, rfl, rfl, trivial⟩, rfl, ?_⟩
  refine ⟨fun hc => ?_, fun hc => ?_⟩
  · have hc : (!decide (e = 0)) = true := hc
    have hx1 : x = [] := hx0 (by simpa using hc)
    subst hx1
    refine ⟨_, _, _, _, Fn.arg (Fn.ren [(1001, 1009)] ht) ⟨⟨rfl, rfl, rfl, trivial⟩, trivial⟩, trivial, rfl, ?_⟩
    exact ⟨_, _, _, Le.refl _ _, rfl, rfl, ⟨rfl, rfl, rfl, rfl, rfl, rfl, trivial⟩, rfl⟩
  · refine ⟨_, _, _, _, Fn.ren [(1001, 1009)] ht, trivial, rfl, ?_⟩
    exact ⟨_, _, _, Le.refl _ _, rfl, rfl, ⟨rfl, rfl, rfl, rfl, rfl, rfl, trivial⟩, rfl⟩
/-! Export: Serve. -/
/-- What is answered, how much is left, and the code: so many requests at most. -/
def srv (ans : Rq → List UInt8) : Nat → List UInt8 → List UInt8 × Nat × Int
  | 0, b => ([], b.length, 0)
  | n + 1, b => if b.length < 16 then ([], b.length, 0) else if hearOK (b.take 16) = false then ([], b.length, 200)
    else if rqK (hearR (b.take 16)) = 4 then ([], b.length - 16, 0)
    else (ans (hearR (b.take 16)) ++ (srv ans n (b.drop 16)).1, (srv ans n (b.drop 16)).2)
@[reducible] def svL (bits room : Nat) (L : List Dsk) (o : Ob) (nm : List UInt8) (out : List UInt8) : BL := [(1001, .cells (chC bits room)), (1002, .map .str .adr (chE L)), (1003, .obj (.pool (chD L))), (1004, .obj (.pool (chM L))), (1005, .obj o), (11, .cells [.ptr 1001 0, .d (.str nm), .ptr 1005 0]), (6001, .row 5 .u8 out)]
@[reducible] def svL2 (bits room : Nat) (L : List Dsk) (o : Ob) (nm : List UInt8) (out : List UInt8) : BL := [(1001, .cells (chC bits room)), (1002, .map .str .adr (chE L)), (1003, .obj (.pool (chD L))), (1004, .obj (.pool (chM L))), (1005, .obj o), (11, .cells [.ptr 1001 0, .d (.str nm), .ptr 1005 0]), (43, .row 5 .u8 out)]
set_option maxHeartbeats 2000000 in
theorem serve_fn {bits room : Nat} {L : List Dsk} {o : Ob} {nm : List UInt8} {ans : Rq → List UInt8} {C : Rq → Prop}
    (hans : ∀ r, C r → Fn Tryz.prog 58 [svV nm, rqV r] (svB bits room L o) [] (vL .u8 (ans r)) (svB bits room L o)) (hal : ∀ r, C r → (ans r).length ≤ 20000) (b : List UInt8) (hb : b.length ≤ 100000)
    (hC : ∀ k, 16 * k + 16 ≤ b.length → hearOK ((b.drop (16 * k)).take 16) = true → rqK (hearR ((b.drop (16 * k)).take 16)) ≠ 4 → C (hearR ((b.drop (16 * k)).take 16))) :
    Fn Tryz.prog 28 [vP 1001, vS nm, vP 1005, vL .u8 b] (svB bits room L o) [1009] (.tup [.one (.own 1009), .one (.d (.int .i64 ((srv ans b.length b).2.1 : Nat))), .one (.d (.int .i64 (srv ans b.length b).2.2))]) (svR bits room L o (srv ans b.length b).1) := by
  generalize hR : srv ans b.length b = R
  refine Fn.of tblOK [] _ _ _ _ _ Tryz.func28 rfl rfl (by kernel_rfl) (by kernel_rfl) rfl (drawOK tblOK) rfl ?_
  refine ⟨rfl, ?_⟩
  show TrQ _ _ _ _ _ _ _
  refine TrQ.loop tblOK (drawOK tblOK) [] (by kernel_rfl) (X := List UInt8 × List UInt8 × Nat) (fun x => [(3, vL .u8 x.2.1), (11, vP 11), (12, vOwn 6001), (13, vI 0)]) (fun x => svL bits room L o nm x.1) (fun x => x.2.1.length < 16 * x.2.2 + 16 ∧ (x.2.1.length ≤ b.length ∧ x.1.length ≤ 20000 * (b.length - x.2.1.length)) ∧ (∃ k, x.2.1 = b.drop (16 * k)) ∧ (x.1 ++ (srv ans x.2.2 x.2.1).1, (srv ans x.2.2 x.2.1).2) = R) (fun x => x.2.2) ([], b, b.length) ⟨(by show b.length < 16 * b.length + 16; omega), ⟨Nat.le_refl _, Nat.zero_le _⟩, ⟨0, rfl⟩, hR⟩ ?_ ?_
  · exact Le.trans (Le.nil 12 6001 5 .u8 rfl rfl) (Le.sub ⟨rfl, rfl, rfl, rfl, trivial⟩ ⟨rfl, rfl, rfl, rfl, rfl, rfl, rfl, trivial⟩)
  rintro ⟨out, x, n⟩ ⟨hn, ⟨hlx, hlo⟩, hk, hr⟩
  have hn : x.length < 16 * n + 16 := hn
  have hlx : x.length ≤ b.length := hlx
  have hlo : out.length ≤ 20000 * (b.length - x.length) := hlo
  have hr : (out ++ (srv ans n x).1, (srv ans n x).2) = R := hr
  have hE : x.length < 16 → srv ans n x = ([], x.length, 0) := by
    intro hx
    cases n with
    | zero => rfl
    | succ n => unfold srv; rw [if_pos hx]
  have hS : 16 ≤ x.length → ∃ m, n = m + 1 ∧ srv ans n x = (if hearOK (x.take 16) = false then ([], x.length, 200) else if rqK (hearR (x.take 16)) = 4 then ([], x.length - 16, 0) else (ans (hearR (x.take 16)) ++ (srv ans m (x.drop 16)).1, (srv ans m (x.drop 16)).2)) := by
    intro hx
    obtain ⟨m, rfl⟩ : ∃ m, n = m + 1 := ⟨n - 1, by omega⟩
    exact ⟨m, rfl, by conv => lhs; unfold srv; rw [if_neg (by omega)]⟩
  have hCx : 16 ≤ x.length → hearOK (x.take 16) = true → rqK (hearR (x.take 16)) ≠ 4 → C (hearR (x.take 16)) := by
    obtain ⟨k, hk⟩ := hk
    have hk : x = b.drop (16 * k) := hk
    intro h1 h2 h3
    rw [hk] at h1 h2 h3 ⊢
    rw [List.length_drop] at h1
    exact hC k (by omega) h2 h3
  have hk2 : ∃ k, x.drop 16 = b.drop (16 * k) := by
    obtain ⟨k, hk⟩ := hk
    have hk : x = b.drop (16 * k) := hk
    exact ⟨k + 1, by rw [hk, List.drop_drop]; congr 1⟩
  have hdr : (List.take x.length x).drop 16 = x.drop 16 := by rw [List.take_length]
  have hdl : ((List.take x.length x).drop 16).length = x.length - 16 := by rw [List.take_length, List.length_drop]
  have hh := hear_fn (x.take 16) (by rw [List.length_take]; omega)
  clear hk
  refine ⟨fun h => ?_, fun h => ?_⟩
  · have hx : 16 ≤ x.length := by
      have h : decide ((16 : Int) ≤ ((x.length : Nat) : Int)) = true := h
      have := of_decide_eq_true h
      omega
    obtain ⟨m, rfl, hs⟩ := hS hx
    have hCx := hCx hx
    rw [hs] at hr
    clear hs hS hE
    have m1 : 0 ≤ (16 : Int) ∧ (16 : Int) ≤ ((x.length : Nat) : Int) := by omega
    have m2 : (0 : Int) ≤ 16 ∧ (16 : Int) ≤ ((x.length : Nat) : Int) := by omega
    cases hok : hearOK (x.take 16) with
    | false =>
      rw [hok] at hh
      rw [hok, if_pos rfl, List.append_nil] at hr
      subst hr
      refine ⟨m1, ?_⟩
      refine ⟨_, _, _, _, hh, trivial, rfl, ?_⟩
      refine ⟨rfl, ?_⟩
      refine ⟨fun _ => ?_, fun h => absurd h (by decide)⟩
      exact ⟨_, _, _, Le.ren 6001 1009 rfl, rfl, ⟨rfl, rfl, rfl, trivial⟩, ⟨rfl, rfl, rfl, rfl, rfl, rfl, trivial⟩, rfl⟩
    | true =>
      rw [hok] at hh
      rw [hok, if_neg (by decide)] at hr
      have hCx := hCx hok
      generalize hearR (x.take 16) = r at *
      by_cases h4 : rqK r = 4
      · rw [if_pos h4, List.append_nil] at hr
        subst hr
        refine ⟨m1, ?_⟩
        refine ⟨_, _, _, _, hh, trivial, rfl, ?_⟩
        refine ⟨rfl, ?_⟩
        refine ⟨fun h => absurd h (by decide), fun _ => ?_⟩
        refine ⟨fun _ => ?_, fun h => absurd (show decide (rqK r = 4) = false from h) (by rw [h4]; decide)⟩
        refine ⟨m2, ?_⟩
        exact ⟨_, _, _, Le.ren 6001 1009 rfl, rfl, ⟨rfl, congrArg Int.ofNat hdl, rfl, trivial⟩, ⟨rfl, rfl, rfl, rfl, rfl, rfl, trivial⟩, rfl⟩
      · rw [if_neg h4] at hr
        have hc := hCx h4
        have ha := hans r hc
        have hal := hal r hc
        generalize ans r = y at *
        have hl1 : out.length + y.length ≤ 4294967296 := by omega
        refine ⟨m1, ?_⟩
        refine ⟨_, _, _, _, hh, trivial, rfl, ?_⟩
        refine ⟨rfl, ?_⟩
        refine ⟨fun h => absurd h (by decide), fun _ => ?_⟩
        refine ⟨fun h => absurd (of_decide_eq_true (show decide (rqK r = 4) = true from h)) h4, fun _ => ?_⟩
        refine ⟨_, _, _, _, ha, ⟨rfl, rfl, rfl, rfl, rfl, trivial⟩, rfl, ?_⟩
        refine ⟨hl1, rfl, ?_⟩
        refine ⟨m2, ?_⟩
        have q1 : (out ++ y).length = out.length + y.length := List.length_append
        have q2 : (x.drop 16).length = x.length - 16 := List.length_drop
        refine ⟨(out ++ y, x.drop 16, m), ⟨(by show (x.drop 16).length < 16 * m + 16; omega), ⟨(by show (x.drop 16).length ≤ b.length; omega), (by show (out ++ y).length ≤ 20000 * (b.length - (x.drop 16).length); omega)⟩, hk2, (by rw [← hr]; show ((out ++ y) ++ _, _) = (out ++ (y ++ _), _); rw [List.append_assoc])⟩, Nat.lt_succ_self m, ?_⟩
        refine Le.trans (Le.sub (K' := [(3, vL .u8 (x.drop 16)), (11, vP 11), (12, vOwn 43), (13, vI 0)]) (B' := svL2 bits room L o nm (out ++ y)) ⟨hdr, rfl, rfl, rfl, trivial⟩ ⟨rfl, rfl, rfl, rfl, rfl, rfl, rfl, trivial⟩) ?_
        exact Le.trans (Le.ren 43 6001 rfl) (Le.sub ⟨rfl, rfl, rfl, rfl, trivial⟩ ⟨rfl, rfl, rfl, rfl, rfl, rfl, rfl, trivial⟩)
  · have hx : x.length < 16 := by
      have h : decide ((16 : Int) ≤ ((x.length : Nat) : Int)) = false := h
      have := of_decide_eq_false h
      omega
    rw [hE hx, List.append_nil] at hr
    subst hr
    exact ⟨_, _, _, Le.ren 6001 1009 rfl, rfl, ⟨rfl, rfl, rfl, trivial⟩, ⟨rfl, rfl, rfl, rfl, rfl, rfl, trivial⟩, rfl⟩
/-! Export: law 20's alive. -/
def dirN : Ob := Ob.grp 1001 [(1001, .cells [.mp 1002]), (1002, .map .str .adr [])]
theorem dnewN_fn : Fn Tryz.prog 19 [] [] [1001] (vP 1001) [(1001, .obj dirN)] := by
  refine Fn.of tblOK [] _ _ _ _ _ Tryz.func19 rfl rfl (by kernel_rfl) (by kernel_rfl) rfl (drawOK tblOK) rfl ?_
  refine ⟨rfl, ?_⟩
  refine ⟨rfl, ?_⟩
  exact ⟨_, _, _, Le.trans (Le.ren 3 1001 rfl) (Le.trans (Le.ren 1 1002 rfl) (Le.close 1001 [(1001, .cells [.mp 1002]), (1002, .map .str .adr [])] ⟨rfl, rfl, trivial⟩ rfl fun _ _ _ _ h => h)), rfl, rfl, ⟨rfl, trivial⟩, rfl⟩
@[reducible] def a20r : Rq := (1, 0, 7, 0, 2)
def a20b : List UInt8 := askB a20r ++ [1, 2, 3]
def a20L (p : Nat × Nat) : List Dsk := (adC 0 20 [] [97] 2 [] p).L
def a20z : List UInt8 := List.replicate 32 0
@[reducible] def exN : List S1 := [.d (.int .i64 0), .d (.int .i64 2), .d (.int .i64 1)]
def a20x : List UInt8 := [0, 0, 0, 2, 1]
theorem a20_rd (p : Nat × Nat) : rdA 0 (a20L p) [97] a20r = (a20z, 0) := by kernel_rfl
theorem a20_srv (ans : Rq → List UInt8) : srv ans a20b.length a20b = (ans a20r ++ [], 3, 0) := by kernel_rfl
theorem a20_rpl : rplL ((tellB 0 7 a20z).length + 1) (tellB 0 7 a20z, 0) = some [(0, 7, a20z)] := by kernel_rfl
theorem a20_ext : xtL (a20x.length + 1) 0 (a20x, 0) = some [(0, 2, 1)] := by kernel_rfl
theorem a20_serve {p : Nat × Nat} (h : CS 0 20 (a20L p)) (o : Ob) : Fn Tryz.prog 28 [vP 1001, vS [97], vP 1005, vL .u8 a20b] (svB 0 20 (a20L p) o) [1009] (.tup [.one (.own 1009), .one (.d (.int .i64 3)), .one (.d (.int .i64 0))]) (svR 0 20 (a20L p) o (tellB 0 7 a20z)) := by
  have hx := srd_fn h o [97] a20r
  rw [a20_rd] at hx
  have ha := answer_fn (k := 1) (.inl ⟨rfl, rfl⟩) hx (fun h => absurd rfl h) (by decide) (by kernel_rfl)
  have hs := serve_fn (C := fun r => r = a20r) (ans := fun _ => tellB 0 7 a20z) (fun r hr => by subst hr; exact Fn.frz ha rfl rfl) (fun _ _ => by decide) a20b (by decide) (fun k hk h1 h2 => by
    have hk0 : k = 0 := by
      have e : a20b.length = 19 := by decide
      omega
    subst hk0
    show hearR ((a20b.drop 0).take 16) = a20r
    kernel_rfl)
  rw [a20_srv, List.append_nil] at hs
  exact hs
set_option maxHeartbeats 2000000 in
theorem alive20_fn : Fn Tryz.prog 7 [] [] [] (vB true) [] := by
  have c0 : CS 0 20 [] := CS.nil (by decide) (by decide)
  have hask := ask_ok a20r rfl rfl
  have hrp := replies_ok (tellB 0 7 a20z) [(0, 7, a20z)] (by decide) a20_rpl
  have hxt := exts_ok a20x [(0, 2, 1)] (by decide) a20_ext
  refine Fn.of tblOK [5,6,8] _ _ _ _ _ Tryz.func7 rfl rfl (by kernel_rfl) (by kernel_rfl) rfl (drawOK tblOK) rfl ?_
  refine ⟨_, _, _, _, chnew_ok 0 20 (by decide) (by decide), trivial, rfl, ?_⟩
  refine ⟨_, _, _, _, Fn.ren [(1001, 1005)] dnewN_fn, trivial, rfl, ?_⟩
  refine ⟨fun h => absurd h (by decide), fun _ => ?_⟩
  show TrQ _ _ _ _ _ _ _
  refine TrQ.regionX tblOK (by kernel_rfl) ?_
  refine ⟨_, _, _, fun g => _, fun g => _, chadd_fn c0 [97] 2 [] (by decide), ⟨rfl, rfl, rfl, rfl, trivial⟩, rfl, fun _ => rfl, fun p => ?_⟩
  have c1 : CS 0 20 (a20L p.1) := p.2
  have hsv := a20_serve c1 dirN
  show TrQ _ _ _ _ _ _ _
  refine TrQ.go tblOK (drawOK tblOK) [8] (by kernel_rfl) (Le.sub (K' := [(1, vP 1001), (3, vP 1005)]) (B' := svB 0 20 (a20L p.1) dirN) ⟨rfl, rfl, trivial⟩ ⟨rfl, rfl, rfl, rfl, rfl, trivial⟩) ?_
  refine ⟨_, _, _, _, Fn.ren [(1001, 1006)] hask, trivial, rfl, ?_⟩
  refine ⟨by decide, by decide, rfl, ?_⟩
  refine ⟨_, _, _, _, Fn.own (d := 40) (args := [vP 1001, vS [97], vP 1005, vOwn 40]) hsv rfl, ⟨rfl, rfl, rfl, rfl, rfl, rfl, trivial⟩, rfl, ?_⟩
  show TrQ _ _ _ _ _ _ _
  refine TrQ.go tblOK (drawOK tblOK) [] (by kernel_rfl) (Le.sub (K' := [(5, vI 0), (6, vOwn 1009), (7, vI 3), (8, vI 0)]) (B' := [(1009, .row 5 .u8 (tellB 0 7 a20z))]) ⟨rfl, rfl, rfl, rfl, trivial⟩ ⟨rfl, trivial⟩) ?_
  refine ⟨_, _, _, _, Fn.own (d := 1009) (args := [vOwn 1009]) hrp rfl, ⟨rfl, trivial⟩, rfl, ?_⟩
  refine ⟨by decide, ?_⟩
  refine ⟨_, _, _, _, Fn.ren [(1001, 1002)] hxt, trivial, rfl, ?_⟩
  refine ⟨fun _ => ?_, fun h => absurd h (by decide)⟩
  refine ⟨fun _ => ?_, fun h => absurd h (by decide)⟩
  refine ⟨fun _ => ?_, fun h => absurd h (by decide)⟩
  refine ⟨fun _ => ?_, fun h => absurd h (by decide)⟩
  refine ⟨fun _ => ?_, fun h => absurd h (by decide)⟩
  refine ⟨⟨by decide, by decide⟩, _, rfl, ?_⟩
  refine ⟨fun _ => ?_, fun h => absurd h (by decide)⟩
  refine ⟨⟨by decide, by decide⟩, _, rfl, ?_⟩
  refine ⟨fun _ => ?_, fun h => absurd h (by decide)⟩
  refine ⟨fun _ => ?_, fun h => absurd h (by decide)⟩
  refine ⟨fun _ => ?_, fun h => absurd h (by decide)⟩
  refine ⟨⟨by decide, by decide⟩, _, rfl, ?_⟩
  refine ⟨_, _, fun N => opOK_eqDeep (m := 5) (D := 5) (r := true) (lx := exN) (ly := exN) rfl (by kernel_rfl) (by kernel_rfl) (by decide) rfl rfl rfl rfl rfl (by kernel_rfl) (by kernel_rfl) ⟨fun _ => rfl, fun _ => rfl⟩ N, rfl, ?_⟩
  exact ⟨_, _, _, Le.refl _ _, rfl, rfl, trivial, rfl⟩
end Go.Proofs.YtolaecebfkdbcaaGreat
