/-
  Pushes: functions bound to their receiver; the job: Left, Over, Done, Cancel, copy, Step.
-/
import Derived.Test.YtbcngglcaeehbaaGreatEs
import Derived.Test.YtbcngglcaeehbaaGreatDy
import Derived.Test.YtbcngglcaeehbaaGreatVi
import Derived.Test.YtbcngglcaeehbaaGreatPure
set_option linter.unusedVariables false
set_option linter.unusedSimpArgs false
set_option maxRecDepth 10000
namespace Go.Proofs.YtbcngglcaeehbaaGreat
open Go.RowKit Go.Proofs
/-! ### functions bound to their receiver -/
section
variable {P : Program} {N : Nat} {ids : List Nat} {K : KL} {B : BL} {o : Oper}
@[reducible] def vBnd (f b : Nat) : SV := .c (.one (.raw (.func (.func f) #[.pointer (some ⟨b, 0, none⟩)] #[])))
theorem opOK_bind {f : FuncId} {x : Operand} {d m b : Nat} (ho : o.op = .makeFunc (.func f) #[x] #[]) (hx : opv K x = .c (.one (.ptr d 0))) (hm : lookB B m = some (.dep d (isAt b))) (N : Nat) : OpOK P N ids o K B (vBnd f b) ⟨[m], [], []⟩ := by
  have m1 : x ∈ o.op.operands := by rw [ho]; simp [Op.operands]
  refine OpOK.val fun K' B' g1 g2 C ρ F a w hM hS => ?_
  have e1 := hS.ptr ((g1 x m1).trans hx)
  have e2 := mark_blk (N := N) (a := a) hM ((g2 m (by simp)).trans hm)
  rw [e2] at e1
  refine ⟨.func (.func f) #[.pointer (some ⟨b, 0, none⟩)] #[], ?_, rfl⟩
  simp [execOp, ho, Instr.makeFunc, e1]
theorem exec_callB {ev : Operand → Value} {f : FuncId} {c : Call} {x : Operand} {xs : List Operand} {p : Value} {w : World} (hf : callable P f = true) (ho : o.op = .call c) (h1 : c.callee = .value x) (h2 : c.args.toList = xs) (hev : ev x = .func (.func f) #[p] #[]) : (execOp ev o).run P w = .ok (.enter f (p :: xs.map ev).toArray) w := by
  have hargs : c.args = xs.toArray := by rw [← h2]
  obtain ⟨cal, args, ts⟩ := c
  simp only at h1 hargs
  subst h1 hargs
  unfold callable at hf
  split at hf
  · rename_i fn hfn
    simp only [Bool.not_eq_true', Bool.or_eq_false_iff, beq_eq_false_iff_ne] at hf
    have h2 : ¬ fn.body = none := fun e => by rw [e] at hf; simp at hf
    simp [execOp, ho, resolve, invoke, hev, Deferred.ofValue, callFunc, go_sem, hfn]
    rw [if_neg hf.1, if_neg h2]
  · cases hf
theorem opOK_callB {f : FuncId} {c : Call} {t b : Nat} {xs : List Operand} {Bi : BL} {res : SV} {Bo : BL} (ho : o.op = .call c) (h1 : c.callee = .value (.tmp t)) (h2 : c.args.toList = xs) (hl : look K t = vBnd f b) (hf : Fn P f (.c (.one (.d (.adr (some b)))) :: xs.map (opv K)) Bi [] res Bo) (hsub : subB B Bi) (hok : outOK Bi [] Bo = true) (N : Nat) :
    OpOK P N ids o K B res ⟨keysB Bi, [], effB Bi Bo⟩ := by
  have mem : ∀ z ∈ xs, z ∈ o.op.operands := fun z hz => by
    rw [ho]
    simp only [Op.operands, Call.operands, Array.mem_append]
    exact .inr (Array.mem_toList_iff.1 (by rw [h2]; exact hz))
  have mt : Operand.tmp t ∈ o.op.operands := by
    rw [ho]
    simp only [Op.operands, Call.operands, Array.mem_append, h1]
    exact .inl (by simp)
  obtain ⟨v, e, ⟨rfl, rfl⟩, hO, _⟩ : Snd P N ids o K B (fun v e => v = res ∧ e = ⟨keysB Bi, [], effB Bi Bo⟩) := snd_call_gen (args := .c (.one (.d (.adr (some b)))) :: xs.map (opv K)) mem (fun K' ρ I a w g1 hS => by
    have hv := hS t
    have hk : look K' t = look K t := g1 (.tmp t) mt
    rw [hk, hl] at hv
    have e : a.tmps.getD t undef = .func (.func f) #[.pointer (some ⟨b, 0, none⟩)] #[] := hv
    refine ⟨.pointer (some ⟨b, 0, none⟩) :: xs.map a.eval, fun hcall => exec_callB hcall ho h1 h2 e, by simp, fun i v x hv hx => ?_⟩
    match i with
    | 0 =>
      simp only [List.getElem?_cons_zero, Option.some.injEq] at hv hx
      subst hv hx
      exact rfl
    | i + 1 => exact args_den mem g1 hS i v x (by simpa using hv) (by simpa using hx)) ⟨Bi, [], res, Bo, hf, hsub, by rw [hok]; rfl, by rw [forceV_eq]; exact ⟨rfl, rfl⟩⟩
  exact hO
end
/-! ### the job -/
@[reducible] def gP (p : Nat × List UInt8) : El uI × El uGo := @Prod.mk Int (List UInt8) (p.1 : Int) p.2
@[reducible] def gL (g : List (Nat × List UInt8)) : List (El uI × El uGo) := g.map gP
theorem gL_len (g : List (Nat × List UInt8)) : (gL g).length = g.length := List.length_map _
theorem gput_f {l : List (El uI × El uGo)} {p : El uI × El uGo} {k : Int} {x : List UInt8} (h : eqKey uI k p.1 = false) : mput (ku := uI) (vu := uGo) (p :: l) k x = p :: mput (ku := uI) (vu := uGo) l k x := by
  simp only [mput, h]
theorem mput_gL (k : Nat) (x : List UInt8) : ∀ g : List (Nat × List UInt8), k ∉ g.map Prod.fst → mput (ku := uI) (vu := uGo) (gL g) (k : Int) x = gL (g ++ [(k, x)])
  | [], _ => rfl
  | p :: g, h => by
    rw [List.map_cons, List.mem_cons, not_or] at h
    refine (gput_f (p := gP p) (l := gL g) ((eqKey_nat k p.1).trans (decide_eq_false h.1))).trans ?_
    rw [mput_gL k x g h.2]
    rfl
@[reducible] def puC (nm : List UInt8) (bi n rm : Int) (over done : Bool) : List S1 := [.ptr 1001 0, .d (.str nm), .d (.int .i64 bi), .d (.int .i64 n), .d (.int .i64 rm), .mp 2002, .mp 2003, .d (.bool over), .d (.bool done)]
@[reducible] def puB (bits room : Int) (L : List Dsk) (nm : List UInt8) (n rm : Int) (l : List Nat) (g : List (Nat × List UInt8)) (over done : Bool) : BL := chB bits room L ++ [(2001, .cells (puC nm bits n rm over done)), (2002, .map uI uI (esL l)), (2003, .map uI uGo (gL g))]
section
variable {bits room : Nat} {L : List Dsk} {nm : List UInt8}
theorem puleft_fn (bits room : Int) (L : List Dsk) (nm : List UInt8) (n rm : Int) (l : List Nat) (g : List (Nat × List UInt8)) (over done : Bool) : Fn Tryz.prog 15 [vP 2001] (puB bits room L nm n rm l g over done) [] (vI (l.length : Nat)) (puB bits room L nm n rm l g over done) := by
  have hlen := esL_len l
  refine Fn.of tblOK [] _ _ _ _ _ Tryz.func15 rfl rfl (by kernel_rfl) (by kernel_rfl) rfl (drawOK tblOK) rfl ?_
  exact ⟨_, _, _, Le.refl _ _, rfl, (show (((esL l).length : Nat) : Int) = ((l.length : Nat) : Int) by rw [hlen]), ⟨rfl, rfl, rfl, rfl, rfl, rfl, rfl, trivial⟩, rfl⟩
theorem puover_fn (bits room : Int) (L : List Dsk) (nm : List UInt8) (n rm : Int) (l : List Nat) (g : List (Nat × List UInt8)) (over done : Bool) : Fn Tryz.prog 18 [vP 2001] (puB bits room L nm n rm l g over done) [] (vB over) (puB bits room L nm n rm l g over done) := by
  refine Fn.of tblOK [] _ _ _ _ _ Tryz.func18 rfl rfl (by kernel_rfl) (by kernel_rfl) rfl (drawOK tblOK) rfl ?_
  exact ⟨_, _, _, Le.refl _ _, rfl, rfl, ⟨rfl, rfl, rfl, rfl, rfl, rfl, rfl, trivial⟩, rfl⟩
theorem pudone_fn (bits room : Int) (L : List Dsk) (nm : List UInt8) (n rm : Int) (l : List Nat) (g : List (Nat × List UInt8)) (over done : Bool) : Fn Tryz.prog 19 [vP 2001] (puB bits room L nm n rm l g over done) [] (vB done) (puB bits room L nm n rm l g over done) := by
  refine Fn.of tblOK [] _ _ _ _ _ Tryz.func19 rfl rfl (by kernel_rfl) (by kernel_rfl) rfl (drawOK tblOK) rfl ?_
  exact ⟨_, _, _, Le.refl _ _, rfl, rfl, ⟨rfl, rfl, rfl, rfl, rfl, rfl, rfl, trivial⟩, rfl⟩
theorem pucancel_fn (bits room : Int) (L : List Dsk) (nm : List UInt8) (n rm : Int) (l : List Nat) (g : List (Nat × List UInt8)) (over done : Bool) : Fn Tryz.prog 20 [vP 2001] (puB bits room L nm n rm l g over done) [] vU (puB bits room L nm n rm [] g true done) := by
  refine Fn.of tblOK [] _ _ _ _ _ Tryz.func20 rfl rfl (by kernel_rfl) (by kernel_rfl) rfl (drawOK tblOK) rfl ?_
  refine ⟨_, _, fun N => opOK_clear rfl Tryz.underlying83 rfl rfl N, rfl, ?_⟩
  exact ⟨_, _, _, Le.cellsTo 2001 (l' := puC nm bits n rm true done) rfl ⟨rfl, rfl, rfl, rfl, rfl, rfl, rfl, rfl, rfl, trivial⟩, rfl, trivial, ⟨rfl, rfl, rfl, rfl, rfl, rfl, rfl, trivial⟩, rfl⟩
structure CY where
  e : Int
  l : List Nat
  g : List (Nat × List UInt8)
  over : Bool
def pucp (bits : Nat) (L : List Dsk) (nm : List UInt8) (rm : Int) (l : List Nat) (g : List (Nat × List UInt8)) (k : Nat) : CY := if rm ≤ ((g.length : Nat) : Int) then ⟨171, [], g, true⟩ else ⟨0, l.erase k, g ++ [(k, clC bits L nm (k : Int))], false⟩
theorem pucopy_fn (h : CS bits room L) (nm : List UInt8) (n rm : Int) (l : List Nat) (g : List (Nat × List UInt8)) (done : Bool) (k : Nat) (hk : k ∉ g.map Prod.fst) : Fn Tryz.prog 39 [vP 2001, vI (k : Int)] (puB bits room L nm n rm l g false done) [] (vI (pucp bits L nm rm l g k).e) (puB bits room L nm n rm (pucp bits L nm rm l g k).l (pucp bits L nm rm l g k).g (pucp bits L nm rm l g k).over done) := by
  have hcl := chcluster_fn h nm (k : Int)
  have hlen := gL_len g
  have hput := mput_gL k (clC bits L nm (k : Int)) g hk
  have hdl := mdel_esL k l
  by_cases c : rm ≤ ((g.length : Nat) : Int)
  · have e : pucp bits L nm rm l g k = ⟨171, [], g, true⟩ := if_pos c
    rw [e]
    refine Fn.of tblOK [2] _ _ _ _ _ Tryz.func39 rfl rfl (by kernel_rfl) (by kernel_rfl) rfl (drawOK tblOK) rfl ?_
    refine ⟨rfl, ?_⟩
    refine ⟨fun _ => ?_, fun hh => ?_⟩
    · show TrQ _ _ _ _ _ _ _
      refine TrQ.go tblOK (drawOK tblOK) [] (by kernel_rfl) (Le.refl _ _) ?_
      refine ⟨_, _, _, _, pucancel_fn bits room L nm n rm l g false done, ⟨rfl, rfl, rfl, rfl, rfl, rfl, rfl, trivial⟩, rfl, ?_⟩
      exact ⟨_, _, _, Le.refl _ _, rfl, rfl, ⟨rfl, rfl, rfl, rfl, rfl, rfl, rfl, trivial⟩, rfl⟩
    · exfalso
      have hh : decide (rm ≤ (((gL g).length : Nat) : Int)) = false := hh
      have := of_decide_eq_false hh
      omega
  · have e : pucp bits L nm rm l g k = ⟨0, l.erase k, g ++ [(k, clC bits L nm (k : Int))], false⟩ := if_neg c
    rw [e]
    generalize clC bits L nm (k : Int) = x at *
    refine Fn.of tblOK [4] _ _ _ _ _ Tryz.func39 rfl rfl (by kernel_rfl) (by kernel_rfl) rfl (drawOK tblOK) rfl ?_
    refine ⟨rfl, ?_⟩
    refine ⟨fun hh => ?_, fun _ => ?_⟩
    · exfalso
      have hh : decide (rm ≤ (((gL g).length : Nat) : Int)) = true := hh
      have := of_decide_eq_true hh
      omega
    show TrQ _ _ _ _ _ _ _
    refine TrQ.go tblOK (drawOK tblOK) [] (by kernel_rfl) (Le.refl _ _) ?_
    refine ⟨_, _, _, _, hcl, ⟨rfl, rfl, rfl, rfl, trivial⟩, rfl, ?_⟩
    refine ⟨trivial, ?_⟩
    refine ⟨rfl, ?_⟩
    exact ⟨_, _, _, Le.refl _ _, rfl, rfl, ⟨rfl, rfl, rfl, rfl, rfl, congrArg (fun z => some (Ch.map uI uI z)) hdl, congrArg (fun z => some (Ch.map uI uGo z)) hput, trivial⟩, rfl⟩
@[reducible] def puM (bits room : Int) (L : List Dsk) (nm : List UInt8) (n rm : Int) (l : List Nat) (g : List (Nat × List UInt8)) (over done : Bool) (b : Nat) : BL := puB bits room L nm n rm l g over done ++ [(9001, .dep 2001 (isAt b))]
theorem pucopyA_fn (h : CS bits room L) (nm : List UInt8) (n rm : Int) (l : List Nat) (g : List (Nat × List UInt8)) (done : Bool) (k : Nat) (hk : k ∉ g.map Prod.fst) (b : Nat) : Fn Tryz.prog 39 [.c (.one (.d (.adr (some b)))), vI (k : Int)] (puM bits room L nm n rm l g false done b) [] (vI (pucp bits L nm rm l g k).e) (puM bits room L nm n rm (pucp bits L nm rm l g k).l (pucp bits L nm rm l g k).g (pucp bits L nm rm l g k).over done b) := by
  have hc := pucopy_fn h nm n rm l g done k hk
  generalize pucp bits L nm rm l g k = r at *
  refine Fn.via (X := Unit) (args' := fun _ => [vP 2001, vI (k : Int)]) (B1 := fun _ => puM bits room L nm n rm l g false done b) (Bi' := fun _ => puB bits room L nm n rm l g false done) (nw' := fun _ => []) (res' := fun _ => vI r.e) (Bo' := fun _ => puB bits room L nm n rm r.l r.g r.over done)
    (by kernel_rfl) 2 rfl ?_ (fun _ => hc) (fun _ => ⟨rfl, rfl, rfl, rfl, rfl, rfl, rfl, trivial⟩) (fun _ => rfl) (fun _ => rfl) ?_
  · intro N C a w hs
    exact ⟨(), Sat.sub (Le.ofAdr 0 2001 9001 b rfl rfl N C a w hs) ⟨rfl, rfl, trivial⟩ ⟨rfl, rfl, rfl, rfl, rfl, rfl, rfl, rfl, trivial⟩⟩
  · intro _
    exact ⟨vI r.e, puM bits room L nm n rm r.l r.g r.over done b, Le.sub ⟨rfl, trivial⟩ ⟨rfl, rfl, rfl, rfl, rfl, rfl, rfl, rfl, trivial⟩, rfl, ⟨rfl, rfl, rfl, rfl, rfl, rfl, rfl, rfl, trivial⟩, rfl⟩
structure PS where
  dn : Bool
  e : Int
  l : List Nat
  g : List (Nat × List UInt8)
  over : Bool
  done : Bool
def pustep (bits : Nat) (L : List Dsk) (nm : List UInt8) (rm : Int) (l : List Nat) (g : List (Nat × List UInt8)) (over done : Bool) : PS := if over = true then ⟨false, 170, l, g, true, done⟩ else if l = [] then ⟨true, 0, [], g, true, true⟩ else
  ⟨false, (pucp bits L nm rm l g (mnN l)).e, (pucp bits L nm rm l g (mnN l)).l, (pucp bits L nm rm l g (mnN l)).g, (pucp bits L nm rm l g (mnN l)).over, done⟩
set_option maxHeartbeats 1000000 in
theorem pustep_fn (h : CS bits room L) (nm : List UInt8) (n rm : Int) (l : List Nat) (g : List (Nat × List UInt8)) (over done : Bool) (hl : ∀ k, k ∈ l → k ≤ 100000) (hl2 : l.length ≤ 100000) (hn : l.Nodup) (hg : ∀ k, k ∈ l → k ∉ g.map Prod.fst) : Fn Tryz.prog 16 [vP 2001] (puB bits room L nm n rm l g over done) [] (.tup [.one (.d (.bool (pustep bits L nm rm l g over done).dn)), vErr (pustep bits L nm rm l g over done).e])
    (puB bits room L nm n rm (pustep bits L nm rm l g over done).l (pustep bits L nm rm l g over done).g (pustep bits L nm rm l g over done).over (pustep bits L nm rm l g over done).done) := by
  cases over with
  | true =>
    have e : pustep bits L nm rm l g true done = ⟨false, 170, l, g, true, done⟩ := if_pos rfl
    rw [e]
    refine Fn.of tblOK [] _ _ _ _ _ Tryz.func16 rfl rfl (by kernel_rfl) (by kernel_rfl) rfl (drawOK tblOK) rfl ?_
    refine ⟨fun _ => ?_, fun h => absurd h (by decide)⟩
    exact ⟨_, _, _, Le.refl _ _, rfl, ⟨rfl, rfl, trivial⟩, ⟨rfl, rfl, rfl, rfl, rfl, rfl, rfl, trivial⟩, rfl⟩
  | false =>
    have hel := esL_len l
    by_cases hne : l = []
    · have e : pustep bits L nm rm l g false done = ⟨true, 0, [], g, true, true⟩ := (if_neg (by decide)).trans (if_pos hne)
      rw [e]
      subst hne
      refine Fn.of tblOK [] _ _ _ _ _ Tryz.func16 rfl rfl (by kernel_rfl) (by kernel_rfl) rfl (drawOK tblOK) rfl ?_
      refine ⟨fun h => absurd h (by decide), fun _ => ?_⟩
      refine ⟨fun _ => ?_, fun h => absurd h (by decide)⟩
      exact ⟨_, _, _, Le.cellsTo 2001 (l' := puC nm bits n rm true true) rfl ⟨rfl, rfl, rfl, rfl, rfl, rfl, rfl, rfl, rfl, trivial⟩, rfl, ⟨rfl, rfl, trivial⟩, ⟨rfl, rfl, rfl, rfl, rfl, rfl, rfl, trivial⟩, rfl⟩
    · have e : pustep bits L nm rm l g false done = ⟨false, (pucp bits L nm rm l g (mnN l)).e, (pucp bits L nm rm l g (mnN l)).l, (pucp bits L nm rm l g (mnN l)).g, (pucp bits L nm rm l g (mnN l)).over, done⟩ := (if_neg (by decide)).trans (if_neg hne)
      rw [e]
      obtain ⟨q1, q2, q3⟩ := mnN_spec hne
      have hmin : ∀ g : { ss : List Int // ss.Perm (mkeysI (esL l)) }, mnL g.1 = ((mnN l : Nat) : Int) := fun g => by
        rw [mnL_perm g.2 (by rw [mkeys_esL]; simpa using hne), mkeys_esL]
        exact q1
      have hlg : ∀ g : { ss : List Int // ss.Perm (mkeysI (esL l)) }, g.1.length = l.length := fun g => by
        rw [g.2.length_eq, mkeys_esL, List.length_map]
      have hl0 : 0 < l.length := List.length_pos_iff.2 hne
      have hco := collectI_fn (esL l) (esL_nodup hn) (esL_wf fun k hk => by have := hl k hk; omega) (by omega)
      have hcp := pucopyA_fn h nm n rm l g done (mnN l) (hg _ q2)
      generalize pucp bits L nm rm l g (mnN l) = r at *
      generalize mnN l = mn at *
      refine Fn.of tblOK [6,7] _ _ _ _ _ Tryz.func16 rfl rfl (by kernel_rfl) (by kernel_rfl) rfl (drawOK tblOK) rfl ?_
      refine ⟨fun h => absurd h (by decide), fun _ => ?_⟩
      refine ⟨fun hc => ?_, fun _ => ?_⟩
      · exfalso
        have hc : decide ((((esL l).length : Nat) : Int) = 0) = true := hc
        have := of_decide_eq_true hc
        omega
      show TrQ _ _ _ _ _ _ _
      refine TrQ.leX (LeX.mark 2001 9001 rfl (by decide)) fun b => ?_
      refine TrQ.go tblOK (drawOK tblOK) [7] (by kernel_rfl) (Le.sub (K' := [(0, vP 2001)]) (B' := puM bits room L nm n rm l g false done b) ⟨rfl, trivial⟩ ⟨rfl, rfl, rfl, rfl, rfl, rfl, rfl, rfl, trivial⟩) ?_
      refine ⟨_, _, fun N => opOK_bind (m := 9001) (b := b) rfl rfl rfl N, rfl, ?_⟩
      show TrQ _ _ _ _ _ _ _
      refine TrQ.le (Le.sub (K' := [(0, vP 2001), (4, vBnd 39 b)]) (B' := puM bits room L nm n rm l g false done b) ⟨rfl, rfl, trivial⟩ ⟨rfl, rfl, rfl, rfl, rfl, rfl, rfl, rfl, trivial⟩) ?_
      refine TrQ.regionX tblOK (by kernel_rfl) ?_
      refine ⟨_, _, _, fun g => _, fun g => _, (Fn.ren [(1001, 2002), (2001, 9101)] (mapsKeysI_fn (esL l))).x, ⟨rfl, trivial⟩, rfl, fun _ => rfl, fun _ => ?_⟩
      refine ⟨_, _, _, fun g => _, fun g => _, FnX.ren [(1001, 2002), (2001, 9101)] hco, ⟨rfl, rfl, trivial⟩, rfl, fun _ => rfl, fun gg => ?_⟩
      have hg0 := hlg gg
      have hmg := hmin gg
      refine ⟨_, _, _, fun g => _, fun g => _, (Fn.res (res' := vI (mn : Int)) (minI_fn gg.1 (by omega) (by omega)) hmg).x, trivial, rfl, fun _ => rfl, fun _ => ?_⟩
      refine ⟨_, _, fun N => opOK_callB rfl rfl rfl rfl (hcp b) (by exact ⟨rfl, rfl, rfl, rfl, rfl, rfl, rfl, rfl, trivial⟩) rfl N, rfl, ?_⟩
      exact ⟨_, _, _, Le.refl _ _, rfl, ⟨rfl, rfl, trivial⟩, ⟨rfl, rfl, rfl, rfl, rfl, rfl, rfl, trivial⟩, rfl⟩
end
/-! Pushes: Result, Begin. -/
@[reducible] def uPiec : U := .pr uI uGo
def goAt (g : List (Nat × List UInt8)) (k : Int) : List UInt8 := (mget (ku := uI) (vu := uGo) (gL g) k).getD (dflt uGo)
def pcP (g : List (Nat × List UInt8)) (k : Int) : El uPiec := @Prod.mk Int (List UInt8) k (goAt g k)
def pcsL (g : List (Nat × List UInt8)) : List (El uPiec) := (sortI (mkeysI (gL g))).map (pcP g)
theorem mkeys_gL (g : List (Nat × List UInt8)) : mkeysI (gL g) = (g.map Prod.fst).map fun k : Nat => (k : Int) := by
  unfold mkeysI gL
  rw [List.map_map, List.map_map]
  rfl
theorem pcs_len (g : List (Nat × List UInt8)) : (pcsL g).length = g.length := by
  unfold pcsL
  rw [List.length_map, (sortI_perm _).length_eq, mkeys_gL, List.length_map, List.length_map]
theorem goAt_len {B : Nat} (k : Int) : ∀ g : List (Nat × List UInt8), (∀ p, p ∈ g → p.2.length ≤ B) → (goAt g k).length ≤ B
  | [], _ => Nat.zero_le _
  | p :: g, h => by
    cases e : eqKey uI k (gP p).1 with
    | true =>
      have : goAt (p :: g) k = p.2 := by
        show (mget (ku := uI) (vu := uGo) (gP p :: gL g) k).getD (dflt uGo) = p.2
        simp only [mget, e]
        rfl
      rw [this]
      exact h p (List.mem_cons_self ..)
    | false =>
      have : goAt (p :: g) k = goAt g k := by
        show (mget (ku := uI) (vu := uGo) (gP p :: gL g) k).getD (dflt uGo) = (mget (ku := uI) (vu := uGo) (gL g) k).getD (dflt uGo)
        simp only [mget, e]
      rw [this]
      exact goAt_len k g fun q hq => h q (List.mem_cons_of_mem _ hq)
section
variable {bits room : Nat} {L : List Dsk} {nm : List UInt8}
@[reducible] def prK (ks : List Int) (c k : Nat) : KL := [(0, vP 2001), (5, vOwn c), (18, vL uI ks), (19, vI (ks.length : Nat)), (20, vI (k : Nat))]
@[reducible] def prB (bits room : Int) (L : List Dsk) (nm : List UInt8) (n rm : Int) (l : List Nat) (g : List (Nat × List UInt8)) (over done : Bool) (c : Nat) (x : List (El uPiec)) : BL := puB bits room L nm n rm l g over done ++ [(c, .row 51 uPiec x)]
theorem pures_no (bits room : Int) (L : List Dsk) (nm : List UInt8) (n rm : Int) (l : List Nat) (g : List (Nat × List UInt8)) (over : Bool) : Fn Tryz.prog 17 [vP 2001] (puB bits room L nm n rm l g over false) [] (.tup [.one (.d (.lst uPiec [])), vErr 0, .one (.d (.bool false))]) (puB bits room L nm n rm l g over false) := by
  refine Fn.of tblOK [] _ _ _ _ _ Tryz.func17 rfl rfl (by kernel_rfl) (by kernel_rfl) rfl (drawOK tblOK) rfl ?_
  refine ⟨fun _ => ?_, fun h => absurd h (by decide)⟩
  exact ⟨_, _, _, Le.refl _ _, rfl, ⟨rfl, rfl, rfl, trivial⟩, ⟨rfl, rfl, rfl, rfl, rfl, rfl, rfl, trivial⟩, rfl⟩
set_option maxHeartbeats 1000000 in
theorem pures_ok (bits room : Int) (L : List Dsk) (nm : List UInt8) (n rm : Int) (l : List Nat) (g : List (Nat × List UInt8)) (over : Bool) (hn : (g.map Prod.fst).Nodup) (hk : ∀ p, p ∈ g → p.1 ≤ 100000 ∧ p.2.length ≤ 100000) (hl : g.length ≤ 100000) :
    Fn Tryz.prog 17 [vP 2001] (puB bits room L nm n rm l g over true) [] (.tup [.one (.d (.lst uPiec (pcsL g))), vErr n, .one (.d (.bool true))]) (puB bits room L nm n rm l g over true) := by
  have hnd : (mkeysI (gL g)).Nodup := by
    rw [mkeys_gL]
    exact nodup_map (fun x _ y _ e => by have e : (x : Int) = (y : Int) := e; omega) hn
  have hwf : ∀ s ∈ mkeysI (gL g), (Lit.int .i64 s).wf = true := fun s hs => by
    rw [mkeys_gL] at hs
    obtain ⟨k, hk1, rfl⟩ := List.mem_map.1 hs
    obtain ⟨p, hp, rfl⟩ := List.mem_map.1 hk1
    have := (hk p hp).1
    show (decide (IntKind.i64.min ≤ (p.1 : Int)) && decide ((p.1 : Int) ≤ IntKind.i64.max)) = true
    rw [decide_eq_true (show (IntKind.i64.min : Int) ≤ (p.1 : Int) from Int.le_trans (by decide : IntKind.i64.min ≤ (0 : Int)) (by omega)), decide_eq_true (show (p.1 : Int) ≤ IntKind.i64.max from Int.le_trans (by omega : (p.1 : Int) ≤ 1000000) (by decide))]
    rfl
  have hgl := gL_len g
  have hso := sortedG_fn (gL g) hnd hwf (by omega)
  have hkl : (sortI (mkeysI (gL g))).length = g.length := by rw [(sortI_perm _).length_eq, mkeys_gL, List.length_map, List.length_map]
  have hps : ∀ k : Nat, (h : k < (sortI (mkeysI (gL g))).length) → (pcsL g).take k ++ [pcP g (sortI (mkeysI (gL g)))[k]] = (pcsL g).take (k + 1) := fun k h => by
    rw [List.take_add_one]
    unfold pcsL
    rw [List.getElem?_map, List.getElem?_eq_getElem h]
    rfl
  have hpl := pcs_len g
  have hat := fun k => goAt_len (B := 100000) k g fun p hp => (hk p hp).2
  generalize sortI (mkeysI (gL g)) = ks at *
  generalize pcsL g = ps at *
  refine Fn.of tblOK [4,7,9] _ _ _ _ _ Tryz.func17 rfl rfl (by kernel_rfl) (by kernel_rfl) rfl (drawOK tblOK) rfl ?_
  refine ⟨fun h => absurd h (by decide), fun _ => ?_⟩
  show TrQ _ _ _ _ _ _ _
  refine TrQ.go tblOK (drawOK tblOK) [7,9] (by kernel_rfl) (Le.refl _ _) ?_
  refine ⟨_, _, _, _, Fn.ren [(1001, 2003), (2001, 9201)] (mapsKeysG_fn (gL g)), ⟨rfl, trivial⟩, rfl, ?_⟩
  refine ⟨_, _, _, _, Fn.ren [(1001, 2003), (2001, 9201)] hso, ⟨rfl, rfl, trivial⟩, rfl, ?_⟩
  show TrQ _ _ _ _ _ _ _
  refine TrQ.loop tblOK (drawOK tblOK) [7,9] (by kernel_rfl) (X := Nat) (fun k => prK ks 5002 k) (fun k => prB bits room L nm n rm l g over true 5002 (ps.take k)) (fun k => k ≤ ks.length) (fun k => ks.length - k) 0 (Nat.zero_le _) ?_ ?_
  · exact Le.trans (Le.sub (K' := [(0, vP 2001), (5, .c (.one .nils)), (18, vL uI ks), (19, vI (ks.length : Nat)), (20, vI 0)]) (B' := puB bits room L nm n rm l g over true) ⟨rfl, rfl, rfl, rfl, rfl, trivial⟩ ⟨rfl, rfl, rfl, rfl, rfl, rfl, rfl, trivial⟩) (Le.trans (Le.nil 5 5002 51 uPiec rfl rfl) (Le.sub ⟨rfl, rfl, rfl, rfl, rfl, trivial⟩ ⟨rfl, rfl, rfl, rfl, rfl, rfl, rfl, rfl, trivial⟩))
  intro k hk1
  have hk1 : k ≤ ks.length := hk1
  refine ⟨fun hc => ?_, fun hc => ?_⟩
  · have hc : decide ((k : Int) < ((ks.length : Nat) : Int)) = true := hc
    have hk2 : k < ks.length := by have := of_decide_eq_true hc; omega
    have hget := lgAt (n := k) hk2
    have hst := hps k hk2
    generalize ks[k] = q at *
    have hx := hat q
    have hcl := clone_fn (goAt g q) (by omega)
    have hlen : List.length (α := El uPiec) (ps.take k) + 1 ≤ 4294967296 := by
      show (ps.take k).length + 1 ≤ 4294967296
      rw [List.length_take]
      omega
    refine ⟨by omega, q, hget, ?_⟩
    show TrQ _ _ _ _ _ _ _
    refine TrQ.go tblOK (drawOK tblOK) [9] (by kernel_rfl) (Le.sub (K' := [(0, vP 2001), (5, vOwn 5002), (18, vL uI ks), (19, vI (ks.length : Nat)), (20, vI (k : Nat)), (7, vI q)]) (B' := prB bits room L nm n rm l g over true 5002 (ps.take k)) ⟨rfl, rfl, rfl, rfl, rfl, rfl, trivial⟩ ⟨rfl, rfl, rfl, rfl, rfl, rfl, rfl, rfl, trivial⟩) ?_
    refine ⟨_, _, _, _, hcl, trivial, rfl, ?_⟩
    refine ⟨hlen, rfl, ?_⟩
    exact ⟨by omega, k + 1, hk2, by omega, Le.trans (Le.sub (K' := prK ks 35 (k + 1)) (B' := prB bits room L nm n rm l g over true 35 (ps.take (k + 1))) ⟨rfl, rfl, rfl, rfl, rfl, trivial⟩ ⟨rfl, rfl, rfl, rfl, rfl, rfl, rfl, congrArg (fun z => some (Ch.row 51 uPiec z)) hst, trivial⟩) (Le.trans (Le.ren 35 5002 rfl) (Le.sub ⟨rfl, rfl, rfl, rfl, rfl, trivial⟩ ⟨rfl, rfl, rfl, rfl, rfl, rfl, rfl, rfl, trivial⟩))⟩
  · have hc : decide ((k : Int) < ((ks.length : Nat) : Int)) = false := hc
    have hk2 : k = ks.length := by have := of_decide_eq_false hc; omega
    have hall : ps.take k = ps := List.take_of_length_le (by omega)
    show TrQ _ _ _ _ _ _ _
    refine TrQ.go tblOK (drawOK tblOK) [] (by kernel_rfl) (Le.frz 5002 rfl) ?_
    refine ⟨rfl, ?_⟩
    exact ⟨_, _, _, Le.refl _ _, rfl, ⟨hall, rfl, rfl, trivial⟩, ⟨rfl, rfl, rfl, rfl, rfl, rfl, rfl, trivial⟩, rfl⟩
end
/-! Pushes: Begin. -/
/-- The clusters of the sectors that f has. -/
def puL (f : Nat → Bool) (bits : Nat) : Nat → List Nat
  | 0 => []
  | s + 1 => if f s = true then lput (puL f bits s) (s / 2 ^ bits) else puL f bits s
theorem puL_nodup (f : Nat → Bool) (bits : Nat) : ∀ s, (puL f bits s).Nodup
  | 0 => List.nodup_nil
  | s + 1 => by
    show (if f s = true then lput (puL f bits s) (s / 2 ^ bits) else puL f bits s).Nodup
    split
    · exact lput_nodup (puL_nodup f bits s)
    · exact puL_nodup f bits s
theorem puL_in (bits : Nat) : ∀ s t : Nat, t < s → t / 2 ^ bits ∈ puL (fun _ => true) bits s
  | 0, t, h => absurd h (Nat.not_lt_zero t)
  | s + 1, t, h => by
    show t / 2 ^ bits ∈ lput (puL (fun _ => true) bits s) (s / 2 ^ bits)
    by_cases e : t = s
    · subst e
      exact lput_mem.2 (.inr rfl)
    · exact lput_mem.2 (.inl (puL_in bits s t (by omega)))
theorem puL_lt (f : Nat → Bool) (bits n : Nat) : ∀ s, s ≤ n * 2 ^ bits → ∀ k, k ∈ puL f bits s → k < n
  | 0, _, k, h => by cases h
  | s + 1, hs, k, h => by
    have h : k ∈ (if f s = true then lput (puL f bits s) (s / 2 ^ bits) else puL f bits s) := h
    have hd : s / 2 ^ bits < n := (Nat.div_lt_iff_lt_mul (Nat.two_pow_pos bits)).2 (by omega)
    split at h
    · rcases lput_mem.1 h with h | h
      · exact puL_lt f bits n s (by omega) k h
      · omega
    · exact puL_lt f bits n s (by omega) k h
/-- All clusters are left of the whole disk. -/
theorem puL_all (bits n : Nat) : (puL (fun _ => true) bits (n * 2 ^ bits)).length = n := by
  have h : (List.range n).Perm (puL (fun _ => true) bits (n * 2 ^ bits)) := (List.perm_ext_iff_of_nodup List.nodup_range (puL_nodup _ _ _)).2 fun k => ⟨fun hk => by
    have hk := List.mem_range.1 hk
    have h2 := Nat.two_pow_pos bits
    have := puL_in bits (n * 2 ^ bits) (k * 2 ^ bits) (Nat.mul_lt_mul_of_pos_right hk h2)
    rwa [Nat.mul_div_cancel _ h2] at this, fun hk => List.mem_range.2 (puL_lt _ _ n _ (Nat.le_refl _) k hk)⟩
  rw [← h.length_eq, List.length_range]
section
variable {bits room : Nat} {L : List Dsk} {nm : List UInt8}
@[reducible] def pgB (bits room : Int) (L : List Dsk) (nm : List UInt8) (n rm : Int) (l : List Nat) : BL := chB bits room L ++ [(46, .cells [.ptr 1001 0, .d (.str nm), .d (.int .i64 bits), .d (.int .i64 n), .d (.int .i64 rm), .mp 43, .mp 44, .d (.bool false), .d (.bool false)]), (43, .map uI uI (esL l)), (44, .map uI uGo [])]
theorem pubegin_no_nil (h : CS bits room L) {d : Dsk} (hd : dk L nm = some d) (rm : Int) (hr : rm < 0) : Fn Tryz.prog 37 [vP 1001, vS nm, .c (.one (.raw (.pointer none))), vI rm] (chB bits room L) [] (.tup [vNilP, vErr 1]) (chB bits room L) := by
  refine Fn.of tblOK [] _ _ _ _ _ Tryz.func37 rfl rfl (by kernel_rfl) (by kernel_rfl) rfl (drawOK tblOK) rfl ?_
  refine ⟨_, _, _, _, image_fn _ _ L h.toChN nm d hd, ⟨rfl, rfl, rfl, rfl, trivial⟩, rfl, ?_⟩
  refine ⟨fun _ _ => ?_, fun h => by cases h⟩
  refine ⟨fun _ => ?_, fun h => absurd (of_decide_eq_false h) (by omega)⟩
  exact ⟨_, _, _, Le.refl _ _, rfl, ⟨rfl, rfl, trivial⟩, ⟨rfl, rfl, rfl, rfl,  trivial⟩, rfl⟩
@[reducible] def pgK_nil (am : Nat) (nm : List UInt8) (N s : Nat) : KL := [(2, .c (.one (.raw (.pointer none)))), (11, vP 46), (55, vI (N : Nat)), (56, vI (s : Nat))]
set_option maxHeartbeats 1000000 in
theorem pubegin_nil (h : CS bits room L) {d : Dsk} (hd : dk L nm = some d) (rm : Int) (hr : 0 ≤ rm) : Fn Tryz.prog 37 [vP 1001, vS nm, .c (.one (.raw (.pointer none))), vI rm] (chB bits room L) [2001, 2002, 2003] (.tup [.one (.ptr 2001 0), vErr 0]) (puB bits room L nm (d.im.t.length : Nat) rm (puL (fun _ => true) bits (d.im.t.length * 2 ^ bits)) [] false false) := by
  have htl := (h.ims d (dk_get hd).1).1.tl
  have hLm := h.toChN.M (dk_get hd).1
  have hbt : d.im.bits = bits := (h.ims d (dk_get hd).1).2.1
  have hb3 := h.b3
  have hp := pow_le8 h.b3
  have eP : ((d.im.t.length : Nat) : Int) * ((2 ^ ((d.im.bits : Nat) : Int).toNat : Nat) : Int) = ((d.im.t.length * 2 ^ bits : Nat) : Int) := by
    rw [hbt]
    show ((d.im.t.length : Nat) : Int) * ((2 ^ bits : Nat) : Int) = _
    rw [Int.natCast_mul]
  have mk : d.im.t.length * 2 ^ bits ≤ 256 * 8 := Nat.mul_le_mul htl hp.2
  have m1 : (0 : Int) ≤ ((d.im.t.length : Nat) : Int) ∧ (0 : Int) ≤ ((d.im.bits : Nat) : Int) ∧ ((d.im.bits : Nat) : Int) ≤ 64 := by omega
  have m2 : (-9223372036854775808 : Int) ≤ ((d.im.t.length : Nat) : Int) * ((2 ^ ((d.im.bits : Nat) : Int).toNat : Nat) : Int) ∧ ((d.im.t.length : Nat) : Int) * ((2 ^ ((d.im.bits : Nat) : Int).toNat : Nat) : Int) ≤ 9223372036854775807 := by rw [eP]; omega
  have n1 : (0 : Int) ≤ ((d.im.t.length : Nat) : Int) ∧ (0 : Int) ≤ ((bits : Nat) : Int) ∧ ((bits : Nat) : Int) ≤ 64 := by omega
  have eP2 : ((d.im.t.length : Nat) : Int) * ((2 ^ ((bits : Nat) : Int).toNat : Nat) : Int) = ((d.im.t.length * 2 ^ bits : Nat) : Int) := by
    show ((d.im.t.length : Nat) : Int) * ((2 ^ bits : Nat) : Int) = _
    rw [Int.natCast_mul]
  have n2 : (-9223372036854775808 : Int) ≤ ((d.im.t.length : Nat) : Int) * ((2 ^ ((bits : Nat) : Int).toNat : Nat) : Int) ∧ ((d.im.t.length : Nat) : Int) * ((2 ^ ((bits : Nat) : Int).toNat : Nat) : Int) ≤ 9223372036854775807 := by rw [eP2]; omega
  refine Fn.of tblOK [6,7,10,11] _ _ _ _ _ Tryz.func37 rfl rfl (by kernel_rfl) (by kernel_rfl) rfl (drawOK tblOK) rfl ?_
  refine ⟨_, _, _, _, image_fn _ _ L h.toChN nm d hd, ⟨rfl, rfl, rfl, rfl, trivial⟩, rfl, ?_⟩
  refine ⟨fun _ _ => ?_, fun h => by cases h⟩
  refine ⟨fun h => absurd (of_decide_eq_true h) (by omega), fun _ => ?_⟩
  show TrQ _ _ _ _ _ _ _
  refine TrQ.go tblOK (drawOK tblOK) [7,10,11] (by kernel_rfl) (Le.sub (K' := [(0, vP 1001), (1, vS nm), (2, .c (.one (.raw (.pointer none)))), (3, vI rm), (10, vAd d.am)]) (B' := chB bits room L) ⟨rfl, rfl, rfl, rfl, rfl, trivial⟩ ⟨rfl, rfl, rfl, rfl,  trivial⟩) ?_
  refine ⟨_, _, _, _, imFn (ibits_fn d.im) hLm rfl rfl rfl rfl, ⟨rfl, trivial⟩, rfl, ?_⟩
  refine ⟨_, _, _, _, imFn (isize_fn d.im) hLm rfl rfl rfl rfl, ⟨rfl, trivial⟩, rfl, ?_⟩
  refine ⟨rfl, rfl, rfl, ?_⟩
  show TrQ _ _ _ _ _ _ _
  refine TrQ.go tblOK (drawOK tblOK) [10,11] (by kernel_rfl) (Le.trans (Le.cellsTo 46 (l' := [.ptr 1001 0, .d (.str nm), .d (.int .i64 ((bits : Nat) : Int)), .d (.int .i64 ((d.im.t.length : Nat) : Int)), .d (.int .i64 rm), .mp 43, .mp 44, .d (.bool false), .d (.bool false)]) rfl ⟨rfl, rfl, congrArg Int.ofNat hbt, rfl, rfl, rfl, rfl, rfl, rfl, trivial⟩) (Le.sub (K' := [(2, .c (.one (.raw (.pointer none)))), (11, vP 46)]) (B' := pgB bits room L nm (d.im.t.length : Nat) rm []) ⟨rfl, rfl, trivial⟩ ⟨rfl, rfl, rfl, rfl, rfl, rfl, rfl,  trivial⟩)) ?_
  refine ⟨n1, n2, ?_⟩
  refine ⟨rfl, ?_⟩
  show TrQ _ _ _ _ _ _ _
  refine TrQ.loop tblOK (drawOK tblOK) [10,11] (by kernel_rfl) (X := Nat) (fun s => pgK_nil d.am nm (d.im.t.length * 2 ^ bits) s) (fun s => pgB bits room L nm (d.im.t.length : Nat) rm (puL (fun _ => true) bits s)) (fun s => s ≤ d.im.t.length * 2 ^ bits) (fun s => d.im.t.length * 2 ^ bits - s) 0 (Nat.zero_le _) ?_ ?_
  · exact Le.sub ⟨rfl, rfl, eP2, rfl, trivial⟩ ⟨rfl, rfl, rfl, rfl, rfl, rfl, rfl,  trivial⟩
  intro s hs
  have hs : s ≤ d.im.t.length * 2 ^ bits := hs
  refine ⟨fun hc => ?_, fun hc => ?_⟩
  · have hc : decide ((s : Int) < ((d.im.t.length * 2 ^ bits : Nat) : Int)) = true := hc
    have hs1 : s < d.im.t.length * 2 ^ bits := by have := of_decide_eq_true hc; omega
    have q1 : (0 : Int) ≤ (s : Int) ∧ (0 : Int) ≤ ((bits : Nat) : Int) ∧ ((bits : Nat) : Int) ≤ 64 := by omega
    have eD : (s : Int) / ((2 ^ ((bits : Nat) : Int).toNat : Nat) : Int) = ((s / 2 ^ bits : Nat) : Int) := by
      show (s : Int) / ((2 ^ bits : Nat) : Int) = _
      rfl
    show TrQ _ _ _ _ _ _ _
    refine TrQ.go tblOK (drawOK tblOK) [11] (by kernel_rfl) (Le.sub (K' := [(2, .c (.one (.raw (.pointer none)))), (11, vP 46), (55, vI ((d.im.t.length * 2 ^ bits : Nat) : Int)), (56, vI (s : Nat)), (12, vI (s : Nat))]) (B' := pgB bits room L nm (d.im.t.length : Nat) rm (puL (fun _ => true) bits s)) ⟨rfl, rfl, rfl, rfl, rfl, trivial⟩ ⟨rfl, rfl, rfl, rfl, rfl, rfl, rfl,  trivial⟩) ?_
    show TrQ _ _ _ _ _ _ _
    refine TrQ.go tblOK (drawOK tblOK) [] (by kernel_rfl) (Le.sub (K' := [(2, .c (.one (.raw (.pointer none)))), (11, vP 46), (55, vI ((d.im.t.length * 2 ^ bits : Nat) : Int)), (56, vI (s : Nat)), (12, vI (s : Nat))]) (B' := pgB bits room L nm (d.im.t.length : Nat) rm (puL (fun _ => true) bits s)) ⟨rfl, rfl, rfl, rfl, rfl, trivial⟩ ⟨rfl, rfl, rfl, rfl, rfl, rfl, rfl,  trivial⟩) ?_
    refine ⟨q1, trivial, ?_⟩
    refine ⟨rfl, ?_⟩
    exact ⟨by omega, s + 1, hs1, by omega, Le.sub ⟨rfl, rfl, rfl, rfl, trivial⟩ ⟨rfl, rfl, rfl, rfl, rfl, congrArg (fun z => some (Ch.map uI uI z)) ((mput_esL (s / 2 ^ bits) _).trans (congrArg esL (show lput (puL (fun _ => true) bits s) (s / 2 ^ bits) = puL (fun _ => true) bits (s + 1) from (if_pos rfl).symm))), rfl,  trivial⟩⟩
  · have hc : decide ((s : Int) < ((d.im.t.length * 2 ^ bits : Nat) : Int)) = false := hc
    have hs1 : s = d.im.t.length * 2 ^ bits := by have := of_decide_eq_false hc; omega
    subst hs1
    exact ⟨_, _, _, Le.trans (Le.ren 46 2001 rfl) (Le.trans (Le.ren 43 2002 rfl) (Le.ren 44 2003 rfl)), rfl, ⟨rfl, rfl, trivial⟩, ⟨rfl, rfl, rfl, rfl, rfl, rfl, rfl,  trivial⟩, rfl⟩
@[reducible] def bxZ (s g : Int) (es : List (El uI × El uI)) : BL := [(5001, .cells [.d (.int .i64 s), .d (.int .i64 g), .mp 5002]), (5002, .map uI uI es)]
@[reducible] def pxB (bits room : Int) (L : List Dsk) (s g : Int) (es : List (El uI × El uI)) : BL := chB bits room L ++ bxZ s g es
@[reducible] def pxG (bits room : Int) (L : List Dsk) (nm : List UInt8) (n rm : Int) (l : List Nat) (s g : Int) (es : List (El uI × El uI)) : BL := pgB bits room L nm n rm l ++ bxZ s g es
@[reducible] def pxU (bits room : Int) (L : List Dsk) (nm : List UInt8) (n rm : Int) (l : List Nat) (g0 : List (Nat × List UInt8)) (over done : Bool) (s g : Int) (es : List (El uI × El uI)) : BL := puB bits room L nm n rm l g0 over done ++ bxZ s g es
theorem pubegin_no_bits (h : CS bits room L) {d : Dsk} (hd : dk L nm = some d) (rm : Int) (hr : rm < 0) (s g : Int) (es : List (El uI × El uI)) : Fn Tryz.prog 37 [vP 1001, vS nm, vP 5001, vI rm] (chB bits room L ++ [(5001, .cells [.d (.int .i64 s), .d (.int .i64 g), .mp 5002]), (5002, .map uI uI es)]) [] (.tup [vNilP, vErr 1]) (chB bits room L ++ [(5001, .cells [.d (.int .i64 s), .d (.int .i64 g), .mp 5002]), (5002, .map uI uI es)]) := by
  refine Fn.of tblOK [] _ _ _ _ _ Tryz.func37 rfl rfl (by kernel_rfl) (by kernel_rfl) rfl (drawOK tblOK) rfl ?_
  refine ⟨_, _, _, _, image_fn _ _ L h.toChN nm d hd, ⟨rfl, rfl, rfl, rfl, trivial⟩, rfl, ?_⟩
  refine ⟨fun _ _ => ?_, fun h => by cases h⟩
  refine ⟨fun _ => ?_, fun h => absurd (of_decide_eq_false h) (by omega)⟩
  exact ⟨_, _, _, Le.refl _ _, rfl, ⟨rfl, rfl, trivial⟩, ⟨rfl, rfl, rfl, rfl, rfl, rfl, trivial⟩, rfl⟩
@[reducible] def pgK_bits (am : Nat) (nm : List UInt8) (N s : Nat) : KL := [(2, vP 5001), (11, vP 46), (55, vI (N : Nat)), (56, vI (s : Nat))]
set_option maxHeartbeats 1000000 in
theorem pubegin_bits (h : CS bits room L) {d : Dsk} (hd : dk L nm = some d) (rm : Int) (hr : 0 ≤ rm) (g : Int) (es : List (El uI × El uI)) (hg : 1 ≤ g) : Fn Tryz.prog 37 [vP 1001, vS nm, vP 5001, vI rm] (pxB bits room L ((d.im.t.length * 2 ^ bits : Nat) : Int) g es) [2001, 2002, 2003] (.tup [.one (.ptr 2001 0), vErr 0]) (pxU bits room L nm (d.im.t.length : Nat) rm (puL (bzIs g es) bits (d.im.t.length * 2 ^ bits)) [] false false ((d.im.t.length * 2 ^ bits : Nat) : Int) g es) := by
  have htl := (h.ims d (dk_get hd).1).1.tl
  have hLm := h.toChN.M (dk_get hd).1
  have hbt : d.im.bits = bits := (h.ims d (dk_get hd).1).2.1
  have hb3 := h.b3
  have hp := pow_le8 h.b3
  have eP : ((d.im.t.length : Nat) : Int) * ((2 ^ ((d.im.bits : Nat) : Int).toNat : Nat) : Int) = ((d.im.t.length * 2 ^ bits : Nat) : Int) := by
    rw [hbt]
    show ((d.im.t.length : Nat) : Int) * ((2 ^ bits : Nat) : Int) = _
    rw [Int.natCast_mul]
  have mk : d.im.t.length * 2 ^ bits ≤ 256 * 8 := Nat.mul_le_mul htl hp.2
  have m1 : (0 : Int) ≤ ((d.im.t.length : Nat) : Int) ∧ (0 : Int) ≤ ((d.im.bits : Nat) : Int) ∧ ((d.im.bits : Nat) : Int) ≤ 64 := by omega
  have m2 : (-9223372036854775808 : Int) ≤ ((d.im.t.length : Nat) : Int) * ((2 ^ ((d.im.bits : Nat) : Int).toNat : Nat) : Int) ∧ ((d.im.t.length : Nat) : Int) * ((2 ^ ((d.im.bits : Nat) : Int).toNat : Nat) : Int) ≤ 9223372036854775807 := by rw [eP]; omega
  have n1 : (0 : Int) ≤ ((d.im.t.length : Nat) : Int) ∧ (0 : Int) ≤ ((bits : Nat) : Int) ∧ ((bits : Nat) : Int) ≤ 64 := by omega
  have eP2 : ((d.im.t.length : Nat) : Int) * ((2 ^ ((bits : Nat) : Int).toNat : Nat) : Int) = ((d.im.t.length * 2 ^ bits : Nat) : Int) := by
    show ((d.im.t.length : Nat) : Int) * ((2 ^ bits : Nat) : Int) = _
    rw [Int.natCast_mul]
  have n2 : (-9223372036854775808 : Int) ≤ ((d.im.t.length : Nat) : Int) * ((2 ^ ((bits : Nat) : Int).toNat : Nat) : Int) ∧ ((d.im.t.length : Nat) : Int) * ((2 ^ ((bits : Nat) : Int).toNat : Nat) : Int) ≤ 9223372036854775807 := by rw [eP2]; omega
  refine Fn.of tblOK [6,7,10,11] _ _ _ _ _ Tryz.func37 rfl rfl (by kernel_rfl) (by kernel_rfl) rfl (drawOK tblOK) rfl ?_
  refine ⟨_, _, _, _, image_fn _ _ L h.toChN nm d hd, ⟨rfl, rfl, rfl, rfl, trivial⟩, rfl, ?_⟩
  refine ⟨fun _ _ => ?_, fun h => by cases h⟩
  refine ⟨fun h => absurd (of_decide_eq_true h) (by omega), fun _ => ?_⟩
  refine ⟨_, _, _, _, Fn.ren [(1001, 5001), (1002, 5002)] (bzsec_fn ((d.im.t.length * 2 ^ bits : Nat) : Int) g es), ⟨rfl, rfl, trivial⟩, rfl, ?_⟩
  refine ⟨_, _, _, _, imFn (isize_fn d.im) hLm rfl rfl rfl rfl, ⟨rfl, trivial⟩, rfl, ?_⟩
  refine ⟨_, _, _, _, imFn (ibits_fn d.im) hLm rfl rfl rfl rfl, ⟨rfl, trivial⟩, rfl, ?_⟩
  refine ⟨m1, m2, ?_⟩
  refine ⟨fun hh => ?_, fun _ => ?_⟩
  · exfalso
    have hh : (!decide (((d.im.t.length * 2 ^ bits : Nat) : Int) = ((d.im.t.length : Nat) : Int) * ((2 ^ ((d.im.bits : Nat) : Int).toNat : Nat) : Int))) = true := hh
    rw [eP, decide_eq_true rfl] at hh
    cases hh
  show TrQ _ _ _ _ _ _ _
  refine TrQ.go tblOK (drawOK tblOK) [7,10,11] (by kernel_rfl) (Le.sub (K' := [(0, vP 1001), (1, vS nm), (2, vP 5001), (3, vI rm), (10, vAd d.am)]) (B' := pxB bits room L ((d.im.t.length * 2 ^ bits : Nat) : Int) g es) ⟨rfl, rfl, rfl, rfl, rfl, trivial⟩ ⟨rfl, rfl, rfl, rfl, rfl, rfl, trivial⟩) ?_
  refine ⟨_, _, _, _, imFn (ibits_fn d.im) hLm rfl rfl rfl rfl, ⟨rfl, trivial⟩, rfl, ?_⟩
  refine ⟨_, _, _, _, imFn (isize_fn d.im) hLm rfl rfl rfl rfl, ⟨rfl, trivial⟩, rfl, ?_⟩
  refine ⟨rfl, rfl, rfl, ?_⟩
  show TrQ _ _ _ _ _ _ _
  refine TrQ.go tblOK (drawOK tblOK) [10,11] (by kernel_rfl) (Le.trans (Le.cellsTo 46 (l' := [.ptr 1001 0, .d (.str nm), .d (.int .i64 ((bits : Nat) : Int)), .d (.int .i64 ((d.im.t.length : Nat) : Int)), .d (.int .i64 rm), .mp 43, .mp 44, .d (.bool false), .d (.bool false)]) rfl ⟨rfl, rfl, congrArg Int.ofNat hbt, rfl, rfl, rfl, rfl, rfl, rfl, trivial⟩) (Le.sub (K' := [(2, vP 5001), (11, vP 46)]) (B' := pxG bits room L nm (d.im.t.length : Nat) rm [] ((d.im.t.length * 2 ^ bits : Nat) : Int) g es) ⟨rfl, rfl, trivial⟩ ⟨rfl, rfl, rfl, rfl, rfl, rfl, rfl, rfl, rfl, trivial⟩)) ?_
  refine ⟨n1, n2, ?_⟩
  refine ⟨rfl, ?_⟩
  show TrQ _ _ _ _ _ _ _
  refine TrQ.loop tblOK (drawOK tblOK) [10,11] (by kernel_rfl) (X := Nat) (fun s => pgK_bits d.am nm (d.im.t.length * 2 ^ bits) s) (fun s => pxG bits room L nm (d.im.t.length : Nat) rm (puL (bzIs g es) bits s) ((d.im.t.length * 2 ^ bits : Nat) : Int) g es) (fun s => s ≤ d.im.t.length * 2 ^ bits) (fun s => d.im.t.length * 2 ^ bits - s) 0 (Nat.zero_le _) ?_ ?_
  · exact Le.sub ⟨rfl, rfl, eP2, rfl, trivial⟩ ⟨rfl, rfl, rfl, rfl, rfl, rfl, rfl, rfl, rfl, trivial⟩
  intro s hs
  have hs : s ≤ d.im.t.length * 2 ^ bits := hs
  refine ⟨fun hc => ?_, fun hc => ?_⟩
  · have hc : decide ((s : Int) < ((d.im.t.length * 2 ^ bits : Nat) : Int)) = true := hc
    have hs1 : s < d.im.t.length * 2 ^ bits := by have := of_decide_eq_true hc; omega
    have q1 : (0 : Int) ≤ (s : Int) ∧ (0 : Int) ≤ ((bits : Nat) : Int) ∧ ((bits : Nat) : Int) ≤ 64 := by omega
    have eD : (s : Int) / ((2 ^ ((bits : Nat) : Int).toNat : Nat) : Int) = ((s / 2 ^ bits : Nat) : Int) := by
      show (s : Int) / ((2 ^ bits : Nat) : Int) = _
      rfl
    show TrQ _ _ _ _ _ _ _
    refine TrQ.go tblOK (drawOK tblOK) [11] (by kernel_rfl) (Le.sub (K' := [(2, vP 5001), (11, vP 46), (55, vI ((d.im.t.length * 2 ^ bits : Nat) : Int)), (56, vI (s : Nat)), (12, vI (s : Nat))]) (B' := pxG bits room L nm (d.im.t.length : Nat) rm (puL (bzIs g es) bits s) ((d.im.t.length * 2 ^ bits : Nat) : Int) g es) ⟨rfl, rfl, rfl, rfl, rfl, trivial⟩ ⟨rfl, rfl, rfl, rfl, rfl, rfl, rfl, rfl, rfl, trivial⟩) ?_
    refine ⟨_, _, _, _, Fn.ren [(1001, 5001), (1002, 5002)] (bzis_fn ((d.im.t.length * 2 ^ bits : Nat) : Int) g es s hg (by omega) (by omega)), ⟨rfl, rfl, trivial⟩, rfl, ?_⟩
    refine ⟨fun hf => ?_, fun hf => ?_⟩
    · have hf : bzIs g es s = true := hf
      show TrQ _ _ _ _ _ _ _
      refine TrQ.go tblOK (drawOK tblOK) [] (by kernel_rfl) (Le.sub (K' := [(2, vP 5001), (11, vP 46), (55, vI ((d.im.t.length * 2 ^ bits : Nat) : Int)), (56, vI (s : Nat)), (12, vI (s : Nat))]) (B' := pxG bits room L nm (d.im.t.length : Nat) rm (puL (bzIs g es) bits s) ((d.im.t.length * 2 ^ bits : Nat) : Int) g es) ⟨rfl, rfl, rfl, rfl, rfl, trivial⟩ ⟨rfl, rfl, rfl, rfl, rfl, rfl, rfl, rfl, rfl, trivial⟩) ?_
      refine ⟨q1, trivial, ?_⟩
      refine ⟨rfl, ?_⟩
      exact ⟨by omega, s + 1, hs1, by omega, Le.sub ⟨rfl, rfl, rfl, rfl, trivial⟩ ⟨rfl, rfl, rfl, rfl, rfl, congrArg (fun z => some (Ch.map uI uI z)) ((mput_esL (s / 2 ^ bits) _).trans (congrArg esL (show lput (puL (bzIs g es) bits s) (s / 2 ^ bits) = puL (bzIs g es) bits (s + 1) from (if_pos hf).symm))), rfl, rfl, rfl, trivial⟩⟩
    · have hf : bzIs g es s = false := hf
      exact ⟨by omega, s + 1, hs1, by omega, Le.sub ⟨rfl, rfl, rfl, rfl, trivial⟩ ⟨rfl, rfl, rfl, rfl, rfl, congrArg (fun z => some (Ch.map uI uI (esL z))) (show puL (bzIs g es) bits s = puL (bzIs g es) bits (s + 1) from (if_neg (by rw [hf]; decide)).symm), rfl, rfl, rfl, trivial⟩⟩
  · have hc : decide ((s : Int) < ((d.im.t.length * 2 ^ bits : Nat) : Int)) = false := hc
    have hs1 : s = d.im.t.length * 2 ^ bits := by have := of_decide_eq_false hc; omega
    subst hs1
    exact ⟨_, _, _, Le.trans (Le.ren 46 2001 rfl) (Le.trans (Le.ren 43 2002 rfl) (Le.ren 44 2003 rfl)), rfl, ⟨rfl, rfl, trivial⟩, ⟨rfl, rfl, rfl, rfl, rfl, rfl, rfl, rfl, rfl, trivial⟩, rfl⟩
end
end Go.Proofs.YtbcngglcaeehbaaGreat
