/-
  From a contract of a law's function to its row: for laws whose arguments are of the universe and which return true.
-/
import Derived.Test.YtolaecebfkdbcaaGreatRd
import Derived.Test.YtolaecebfkdbcaaGreatTbl
import Derived.WalkKit
import Derived.ProofKit
import Derived.OpenShut
import Derived.JoinedCond
import Derived.Below
import Derived.Carry
import Derived.ChangeSame
set_option linter.unusedVariables false
set_option linter.unusedSimpArgs false
namespace Go.Proofs.YtolaecebfkdbcaaGreat
open Go.ChangeShapes Go.WideShapes Go.ChangeAt Go.RowKit

section
variable {H : Type} {enc : TypeId × Value → H} {P : Program}
theorem post_of_below {f : Func} {s : ChangeSpec} {apart fresh handsOn again : Bool} {W W' : World} {args : Array Value} {v : Value} {ds gs : List (DataW H)} {before pa pv : List MemPlace}
    (hW : DataW.Whole enc P f.params.toList s.vars apart W args.toList ds gs before)
    (hres : ∀ (b : Nat) (sp : Nat → Bool) (hd : Bool), DataW.TrodAll enc P W' b sp hd f.resultTypes.toList (v.resultList f.resultTypes.size) (s.fn H (ds ++ gs)).results [])
    (hargs : ∀ sp : Nat → Bool, (∀ p ∈ before, sp p.block = true) → DataW.TrodAll enc P W' 0 sp true f.params.toList args.toList (s.fn H (ds ++ gs)).args pa)
    (hvars : ∀ sp : Nat → Bool, (∀ p ∈ before, sp p.block = true) → DataW.TrodVars enc P W' sp s.vars (s.fn H (ds ++ gs)).vars pv)
    (hps : before = pa ++ pv) (hb : Below W.heap.size W W')
    (hok : ∀ (j : Nat) (t : TypeId) (r : Value), f.resultTypes[j]? = some t → (v.resultList f.resultTypes.size)[j]? = some r → Value.okWide P W' .any 0 t r) :
    s.post enc P f apart fresh handsOn again W args v W' := by
  have hlt : ∀ p ∈ before, p.block < W.heap.size := fun p hp => hW.lt p hp
  have hold : ∀ p ∈ before, (fun b => decide (b < W.heap.size)) p.block = true := fun p hp => by simpa using hlt p hp
  refine ⟨ds, gs, before, [], pa, pv, hW, hres _ _ _, hargs _ hold, hvars _ hold, World.keptBut_mono (fun p hp => ⟨hp, ?_⟩) (hb.frame (· ∈ before)), fun _ => ?_⟩
  · rw [hps, List.mem_append] at hp
    exact Or.inr hp
  · obtain ⟨_, _, _, _, _, hz, hn⟩ := hW
    refine ⟨hok, _, _, ([] ++ pa) ++ pv, ⟨[] ++ pa, pv, trodAll_append (hargs _ (fun _ _ => rfl)) (hres _ _ _), hvars _ (fun _ _ => rfl), rfl, ?_, ?_⟩, ?_⟩
    · intro b off hp
      have hin : MemPlace.cell b off ∈ before := by rw [hps]; simpa using hp
      rw [hb.frozen (hlt _ hin)]
      exact hz b off hin
    · intro ha
      have := hn ha
      rw [hps] at this
      simpa using this
    · intro p hp _
      rw [hps]
      simpa using hp
end

/-- How the engine holds a value of u. -/
def valU : (u : U) → El u → SV
  | .pr u v, x => .c (.agg (listU (.pr u v) x 0 (sz (.pr u v))))
  | .arr n u, x => .c (.agg (listU (.arr n u) x 0 (sz (.arr n u))))
  | .int k, x => .c (.one (.d (cellU (.int k) x 0)))
  | .u8, x => .c (.one (.d (cellU .u8 x 0)))
  | .bool, x => .c (.one (.d (cellU .bool x 0)))
  | .str, x => .c (.one (.d (cellU .str x 0)))
  | .adr, x => .c (.one (.d (cellU .adr x 0)))
  | .hdl, x => .c (.one (.d (cellU .hdl x 0)))
  | .fn, x => .c (.one (.d (cellU .fn x 0)))
  | .sl u, x => .c (.one (.d (cellU (.sl u) x 0)))
def oneT (P : Program) (t : TypeId) : Bool := match P.underlying t with
  | some (.struct _) => false
  | some (.array _ _) => false
  | some _ => true
  | none => false
def argOK (P : Program) (u : U) (t : TypeId) : Bool := tyU P 20 u t && (oneU u == oneT P t) && Nat.beq (P.cellsOf t) (sz u) && P.readableRec t && Nat.blt t P.types.size

section
variable {H : Type} {enc : TypeId × Value → H} {W : World} {P : Program} {ρ : Nat → Pl} {I : Nat → Prop}
theorem denL_listU {u : U} {x : El u} {cs : List Value} (hd : DenU I W u x (fun j => cs[j]?)) : ∀ (n o : Nat), o + n ≤ sz u → o + n ≤ cs.length → DenL ρ I W (listU u x o n) ((cs.drop o).take n)
  | 0, o, _, _ => by simp [listU, DenL]
  | n + 1, o, h, hl => by
    obtain ⟨v, hv, hv2⟩ := DenU.cell u x _ o hd (by omega)
    refine ⟨v, (cs.drop (o + 1)).take n, ?_, hv2, denL_listU hd n (o + 1) (by omega) (by omega)⟩
    have := (List.getElem?_eq_some_iff.1 hv).2
    rw [List.drop_eq_getElem_cons (by omega : o < cs.length), List.take_succ_cons, this]
theorem cells_one {t : TypeId} {v : Value} {base : Nat} (h1 : oneT P t = true) (h : Value.okWide P W .any base t v) {fuel : Nat} {sp : Nat → Bool} {u : U} {n : Nat} {x : DataW H × List MemPlace} (hu : tyU P n u t = true) (h2 : oneU u = true) : v.cells.toList = [v] := by
  cases n with
  | zero => simp [tyU] at hu
  | succ n =>
    unfold tyU at hu
    split at hu
    case h_1 k k' ht => obtain ⟨n, rfl⟩ := okWide_int ht h; rfl
    case h_2 k ht => obtain ⟨n, rfl⟩ := okWide_int ht h; rfl
    case h_3 ht => obtain ⟨n, rfl⟩ := okWide_bool ht h; rfl
    case h_4 ht => obtain ⟨n, rfl⟩ := okWide_string ht h; rfl
    case h_5 e v ht => obtain ⟨a, b, c, rfl⟩ := okWide_slice ht h; rfl
    case h_6 => simp [oneU] at h2
    case h_7 fs u ht => simp [oneT, ht] at h1
    case h_8 => cases hu
theorem cells_agg {t : TypeId} {v : Value} {base : Nat} (h1 : oneT P t = false) (h : Value.okWide P W .any base t v) {n : Nat} {u : U} (hu : tyU P n u t = true) : ∃ cs, v = .agg cs ∧ cs.size = P.cellsOf t := by
  cases n with
  | zero => simp [tyU] at hu
  | succ n =>
    unfold tyU at hu
    unfold Value.okWide at h
    split at hu
    case h_1 k k' ht => simp [oneT, ht] at h1
    case h_2 k ht => simp [oneT, ht] at h1
    case h_3 ht => simp [oneT, ht] at h1
    case h_4 ht => simp [oneT, ht] at h1
    case h_5 e v ht => simp [oneT, ht] at h1
    case h_6 k e k' v ht => rw [ht] at h; obtain ⟨cs, h1, h2, _⟩ := h; exact ⟨cs, h1, h2⟩
    case h_7 fs u ht => rw [ht] at h; obtain ⟨cs, h1, h2, _⟩ := h; exact ⟨cs, h1, h2⟩
    case h_8 => cases hu
/-- One argument. -/
theorem arg_one {u : U} {t : TypeId} {v : Value} {d : DataW H} {ps : List MemPlace} {base : Nat} {sp : Nat → Bool} (h : argOK P u t = true) (hok : Value.okWide P W .any base t v) (hT : DataW.Trod enc P W 0 sp true t v d ps) :
    ∃ a : El u, DenV ρ (fun b => b < W.heap.size) W (valU u a) v ∧ bulkU u a ≤ Rows.uptoBulk d ∧ RngU u a := by
  simp only [argOK, Bool.and_eq_true, Nat.beq_eq, beq_iff_eq] at h
  obtain ⟨⟨⟨⟨h1, h2⟩, h3⟩, _⟩, _⟩ := h
  obtain ⟨n, hn⟩ := hT
  obtain ⟨a, q1, q2, q3⟩ := rdU _ _ _ h1 _ _ _ hn
  refine ⟨a, ?_, q2, q3⟩
  cases ho : oneU u with
  | true =>
    rw [cells_one (x := (d, ps)) (fuel := n) (sp := sp) (by rw [← h2, ho]) hok h1 ho] at q1
    obtain ⟨v', e1, e2⟩ := DenU.cell u a _ 0 q1 (by rcases u with _ | _ | _ | _ | _ | _ | _ <;> simp [sz, oneU] at *)
    simp only [List.getElem?_cons_zero, Option.some.injEq] at e1
    subst e1
    cases u <;> first | exact e2 | (simp [oneU] at ho)
  | false =>
    obtain ⟨cs, rfl, hsz⟩ := cells_agg (by rw [← h2, ho]) hok h1
    have hl : cs.toList.length = sz u := by rw [Array.length_toList]; omega
    have := denL_listU (ρ := ρ) q1 (sz u) 0 (by omega) (by simpa [Value.cells] using (show 0 + sz u ≤ cs.toList.length by omega))
    rw [List.drop_zero, List.take_of_length_le (by simp only [Value.cells]; omega)] at this
    cases u <;> first | exact ⟨_, rfl, this⟩ | (simp [oneU] at ho)

/-- All arguments. -/
def Vals : List U → Type
  | [] => Unit
  | u :: us => El u × Vals us
def argsV : (us : List U) → Vals us → List SV
  | [], _ => []
  | u :: us, x => valU u x.1 :: argsV us x.2
noncomputable def bulkV : (us : List U) → Vals us → Nat
  | [], _ => 0
  | u :: us, x => bulkU u x.1 + bulkV us x.2
def RngV : (us : List U) → Vals us → Prop
  | [], _ => True
  | u :: us, x => RngU u x.1 ∧ RngV us x.2
def argsOK (P : Program) : List U → List TypeId → Bool
  | [], [] => true
  | u :: us, t :: ts => argOK P u t && argsOK P us ts
  | _, _ => false
theorem args_of {base : Nat} {sp : Nat → Bool} : ∀ (us : List U) (ts : List TypeId) (vs : List Value) (ds : List (DataW H)) (ps : List MemPlace), argsOK P us ts = true → (∀ (j : Nat) t v, ts[j]? = some t → vs[j]? = some v → Value.okWide P W .any base t v) →
    DataW.TrodAll enc P W 0 sp true ts vs ds ps → ∃ a : Vals us, vs.length = (argsV us a).length ∧ (∀ (i : Nat) (s : SV) (x : Value), (argsV us a)[i]? = some s → vs[i]? = some x → DenV ρ (fun b => b < W.heap.size) W s x) ∧ bulkV us a ≤ Rows.uptoBulkAll ds ∧ RngV us a
  | [], [], vs, ds, ps, _, _, hT => by
    obtain ⟨rfl, rfl, rfl⟩ := trodAll_nil hT
    exact ⟨(), rfl, fun i s x h => by simp [argsV] at h, Nat.zero_le _, trivial⟩
  | [], _ :: _, _, _, _, h, _, _ => by simp [argsOK] at h
  | _ :: _, [], _, _, _, h, _, _ => by simp [argsOK] at h
  | u :: us, t :: ts, vs, ds, ps, h, hok, hT => by
    simp only [argsOK, Bool.and_eq_true] at h
    obtain ⟨v, vs, d, ds, p, q, rfl, rfl, rfl, h0, hr⟩ := trodAll_cons hT
    obtain ⟨a, a1, a2, a3⟩ := arg_one (ρ := ρ) h.1 (hok 0 t v rfl rfl) h0
    obtain ⟨b, b1, b2, b3, b4⟩ := args_of us ts vs ds q h.2 (fun j t v h1 h2 => hok (j + 1) t v h1 h2) hr
    refine ⟨(a, b), by simp [argsV, b1], fun i s x h1 h2 => ?_, by simp only [bulkV, Rows.uptoBulkAll]; omega, a3, b4⟩
    match i with
    | 0 => simp only [argsV, List.getElem?_cons_zero, Option.some.injEq] at h1 h2; subst h1 h2; exact a1
    | i + 1 => exact b2 i s x (by simpa [argsV] using h1) (by simpa using h2)
theorem args_again (laid : laidOutB P = true) {W' : World} {sp' : Nat → Bool} : ∀ (us : List U) (ts : List TypeId) (vs : List Value) (ds : List (DataW H)) (ps : List MemPlace), argsOK P us ts = true →
    DataW.TrodAll enc P W 0 (fun _ => true) true ts vs ds ps → Below W.heap.size W W' → (∀ x ∈ ps, x.block < W.heap.size) → (∀ x ∈ ps, sp' x.block = true) → DataW.TrodAll enc P W' 0 sp' true ts vs ds ps
  | [], [], vs, ds, ps, _, hT, _, _, _ => by
    obtain ⟨rfl, rfl, rfl⟩ := trodAll_nil hT
    exact trodAll_mk0
  | [], _ :: _, _, _, _, h, _, _, _, _ => by simp [argsOK] at h
  | _ :: _, [], _, _, _, h, _, _, _, _ => by simp [argsOK] at h
  | u :: us, t :: ts, vs, ds, ps, h, hT, hb, hlt, hsp => by
    simp only [argsOK, Bool.and_eq_true] at h
    obtain ⟨v, vs, d, ds, p, q, rfl, rfl, rfl, h0, hr⟩ := trodAll_cons hT
    have h1 := h.1
    simp only [argOK, Bool.and_eq_true, Nat.blt_eq] at h1
    exact trodAll_cons_mk (WideElems.Trod_stays laid h1.1.2 h1.2 h0 (fun x hx => hb.same (hlt x (by simp [hx]))) (fun x hx => hsp x (by simp [hx]))) (args_again laid us ts vs ds q h.2 hr hb (fun x hx => hlt x (by simp [hx])) (fun x hx => hsp x (by simp [hx])))
/-- A contract, as a call. -/
theorem Fn.calls {f : FuncId} {args : List SV} (hF : Fn P f args [] [] (vB true) []) (vals : Array Value) (hl : vals.toList.length = args.length)
    (hd : ∀ (i : Nat) (s : SV) (x : Value), args[i]? = some s → vals.toList[i]? = some x → DenV ρ (fun b => b < W.heap.size) W s x) : Calls P f vals W fun e W' => e = .returned (.bool true) ∧ Below W.heap.size W W' := by
  have h := hF.2 ρ (fun _ _ => False) (fun b => b < W.heap.size) W vals.toList (fun b h => h) (fun c ch hc => by simp [lookB] at hc) (fun c ch hc => by simp [lookB] at hc) (fun c c' ch ch' b hc => by simp [lookB] at hc) hl hd
  rw [Array.toArray_toList] at h
  refine h.mono ?_
  rintro e W' ⟨x, ρ', F', rfl, hfr, -, I', -, -, -, -, -, hx⟩
  rw [show x = .bool true from hx]
  exact ⟨rfl, hfr.below (Nat.le_refl _) (by rintro i _ ⟨c, ch, hc, _⟩; simp [lookB] at hc)⟩
end

theorem own_knob : ownKnob Tryz.prog.godebug = none := by kernel_rfl
theorem laid_ok : laidOutB Tryz.prog = true := by kernel_rfl

set_option maxRecDepth 100000 in
/-- A law's function does as its row says. -/
theorem row_of {H : Type} {enc : TypeId × Value → H} {W : World} {args : Array Value} {ds gs : List (DataW H)} {before : List MemPlace} {base : Nat} (f : FuncId) (fn : Func) (s : ChangeSpec) (us : List U) (n : Nat)
    (hres : fn.resultTypes = #[4]) (hvars : s.vars = []) (hty : argsOK Tryz.prog us fn.params.toList = true)
    (hfn : ∀ ds : List (DataW H), ds.length = fn.params.toList.length → (s.fn H ds).results = [.lit (.bool true)] ∧ (s.fn H ds).vars = [] ∧ (s.fn H ds).args = ds)
    (hval : ∀ (j : Nat) t v, fn.params[j]? = some t → args[j]? = some v → Value.okWide Tryz.prog W .any base t v)
    (hW : DataW.Whole enc Tryz.prog fn.params.toList s.vars false W args.toList ds gs before) (hk : Rows.uptoBulkAll (ds ++ gs) ≤ n)
    (hF : ∀ a : Vals us, bulkV us a ≤ n → RngV us a → Fn Tryz.prog f (argsV us a) [] [] (vB true) []) :
    Calls Tryz.prog f args W fun e W' => ∃ v, e = .returned v ∧ s.post enc Tryz.prog fn false true false false W args v W' := by
  have hW' := hW
  have hlt := hW.lt
  obtain ⟨p, q, hA, hV, rfl, hfz, hnd⟩ := hW
  rw [hvars] at hV
  obtain ⟨rfl, rfl⟩ := trodVars_none hV
  simp only [List.append_nil] at hW' hk hlt
  obtain ⟨a, a1, a2, a3, a4⟩ := args_of (ρ := fun _ => ⟨0, none, 0, 0⟩) us fn.params.toList args.toList ds p hty (fun j t v h1 h2 => hval j t v (by simpa using h1) (by simpa using h2)) hA
  have hlen : ds.length = fn.params.toList.length := by
    have : ∀ (ts : List TypeId) (vs : List Value) (ds : List (DataW H)) (ps : List MemPlace), DataW.TrodAll enc Tryz.prog W 0 (fun _ => true) true ts vs ds ps → ds.length = ts.length := fun ts => by
      induction ts with
      | nil => intro vs ds ps h; obtain ⟨_, rfl, _⟩ := trodAll_nil h; rfl
      | cons t ts ih => intro vs ds ps h; obtain ⟨v, vs, d, ds, p, q, rfl, rfl, rfl, h0, hr⟩ := trodAll_cons h; simp [ih _ _ _ hr]
    exact this _ _ _ _ hA
  obtain ⟨r1, r2, r3⟩ := hfn ds hlen
  refine ((hF a (by omega) a4).calls args a1 a2).mono fun e W' ⟨he, hb⟩ => ?_
  subst he
  refine ⟨_, rfl, post_of_below (pa := p) (pv := []) hW' ?_ ?_ ?_ (by simp) hb ?_⟩
  · intro b sp hd
    rw [List.append_nil, r1, hres]
    exact trodAll_cons_mk (shut_bool Tryz.underlying4 _) trodAll_mk0
  · intro sp hsp
    rw [List.append_nil, r3]
    exact args_again laid_ok us _ _ _ _ hty hA hb (fun x hx => hlt x (by simpa using hx)) (fun x hx => hsp x (by simpa using hx))
  · intro sp hsp
    rw [List.append_nil, r2, hvars]
    rfl
  · exact Go.RowKit.ok_one hres rfl (okWide_bool_mk Tryz.underlying4 _)
end Go.Proofs.YtolaecebfkdbcaaGreat
