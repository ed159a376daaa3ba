/-
  Maps of numbers: their keys, collected; cleared; maps of functions.
-/
import Derived.Test.YtolaecebfkdbcaaGreatTbl
import Derived.Test.YtolaecebfkdbcaaGreatLays
import Derived.Test.YtolaecebfkdbcaaGreatCm
import Derived.Test.YtolaecebfkdbcaaGreatVj
import Derived.Test.YtolaecebfkdbcaaGreatPp
set_option linter.unusedVariables false
set_option linter.unusedSimpArgs false
set_option maxRecDepth 10000
namespace Go.Proofs.YtolaecebfkdbcaaGreat
open Go.RowKit Go.Proofs Go.Maps Go.Shelf Go.MapKept
open Go.WideElems (Fit rd rg pl rd_val rd_key rg_of)

def keyN {vu : U} (p : El uI × El vu) : Int := p.1
def mkeysI {vu : U} (es : List (El uI × El vu)) : List Int := es.map keyN
/-! ### the least of some numbers -/
def mnL : List Int → Int
  | [] => 0
  | x :: l => l.foldl min x
theorem mnL_take {l : List Int} (h : 0 < l.length) : mnL (l.take 1) = l[0] := by
  cases l with
  | nil => simp at h
  | cons x l => rfl
theorem mnL_succ {l : List Int} {k : Nat} (h0 : 0 < k) (h : k < l.length) : mnL (l.take (k + 1)) = min (mnL (l.take k)) l[k] := by
  cases l with
  | nil => simp at h
  | cons x l =>
    cases k with
    | zero => omega
    | succ k =>
      have hk : k < l.length := by simpa using h
      show List.foldl min x (l.take (k + 1)) = min (List.foldl min x (l.take k)) l[k]
      rw [List.take_add_one, List.getElem?_eq_getElem hk, List.foldl_append]
      rfl
theorem foldl_min_le : ∀ (l : List Int) (x : Int), List.foldl min x l ≤ x ∧ (∀ y, y ∈ l → List.foldl min x l ≤ y) ∧ (List.foldl min x l = x ∨ List.foldl min x l ∈ l)
  | [], x => ⟨Int.le_refl _, fun y h => (by cases h), .inl rfl⟩
  | z :: l, x => by
    obtain ⟨h1, h2, h3⟩ := foldl_min_le l (min x z)
    show List.foldl min (min x z) l ≤ x ∧ (∀ y, y ∈ z :: l → List.foldl min (min x z) l ≤ y) ∧ (List.foldl min (min x z) l = x ∨ List.foldl min (min x z) l ∈ z :: l)
    refine ⟨by omega, fun y hy => ?_, ?_⟩
    · rcases List.mem_cons.1 hy with rfl | hy
      · omega
      · exact h2 y hy
    · rcases h3 with h3 | h3
      · rcases Int.le_total x z with c | c
        · exact .inl (by omega)
        · exact .inr (by rw [h3, show min x z = z by omega]; exact List.mem_cons_self ..)
      · exact .inr (List.mem_cons_of_mem _ h3)
theorem mnL_spec {l : List Int} (h : l ≠ []) : mnL l ∈ l ∧ ∀ y, y ∈ l → mnL l ≤ y := by
  cases l with
  | nil => exact absurd rfl h
  | cons x l =>
    obtain ⟨h1, h2, h3⟩ := foldl_min_le l x
    refine ⟨?_, fun y hy => ?_⟩
    · rcases h3 with h3 | h3
      · show List.foldl min x l ∈ x :: l
        rw [h3]
        exact List.mem_cons_self ..
      · exact List.mem_cons_of_mem _ h3
    · rcases List.mem_cons.1 hy with rfl | hy
      · exact h1
      · exact h2 y hy
theorem mnL_perm {l m : List Int} (h : l.Perm m) (hn : m ≠ []) : mnL l = mnL m := by
  have hl : l ≠ [] := fun e => hn (by subst e; exact List.nil_perm.1 h)
  obtain ⟨a1, a2⟩ := mnL_spec hl
  obtain ⟨b1, b2⟩ := mnL_spec hn
  have := a2 _ (h.mem_iff.2 b1)
  have := b2 _ (h.mem_iff.1 a1)
  omega
/-! ### clear -/
section
variable {P : Program} {N : Nat} {ids : List Nat} {K : KL} {B : BL}
theorem opOK_clear {o : Oper} {T kt et : TypeId} {x : Operand} {c : Nat} (ho : o.op = .call { callee := .builtin .clear, args := #[x], argTypes := #[T] }) (hT : P.underlying T = some (.map kt et)) {ku vu : U} {es : List (El ku × El vu)}
    (hx : opv K x = .c (.one (.mp c))) (hc : lookB B c = some (.map ku vu es)) (N : Nat) : OpOK P N ids o K B (.tup []) ⟨[c], [], [(c, some (.map ku vu []))]⟩ := by
  have m1 : x ∈ o.op.operands := by rw [ho]; simp [Op.operands, Call.operands]
  refine OpOK.turnT hc fun K' B' g1 C ρ F a w hM hS hl' => ?_
  obtain ⟨hF, ents, clock, hb, hm, hB⟩ := hM.holds c _ hl'
  have e1 := hS.mp ((g1 x m1).trans hx)
  have hlt := lt_of_heap hb
  have hst := fun o => MapKept.run_setObj_map (P := P) o hb
  have hr : (Builtin.clear_ #[T] o.type #[.map (some (ρ c).blk)]).run P w = .ok (.tuple #[]) { w with heap := w.heap.setIfInBounds (ρ c).blk (.map #[] clock) } := by
    simp [Builtin.clear_, run_underlying hT, MapKept.run_getObj_map hb, hst, Result.andThen]
  refine ⟨{ w with heap := w.heap.setIfInBounds (ρ c).blk (.map #[] clock) }, ?_, map_fr ((hF _).2 rfl), fun I hE => ⟨hF, [], clock, by simp [hlt], rfl, by simp, fun e he => by cases he⟩⟩
  simp [execOp, ho, resolve, invoke, builtin, e1, hr]
/-! ### maps of functions -/
theorem OpOK.turnR {o : Oper} {c : Nat} {rc : List Nat} {ch0 ch : Ch} (hc : lookB B c = some ch0)
    (h : ∀ (K' : KL) (B' : BL), (∀ x, x ∈ o.op.operands → opv K' x = opv K x) → (∀ d, d ∈ rc → lookB B' d = lookB B d) → ∀ (C : Ctx) (ρ : Nat → Pl) (F : Nat → Nat → Prop) (a : Act) (w : World), Mem ids C B' ρ F w → Slots K' ρ (Imm C B' F w) a w → lookB B' c = some ch0 → ∃ w', (execOp a.eval o).run P w = .ok .skip w' ∧ Fr (F c) w w' ∧
        (∀ I, Ext (Imm C B' F w) w I w' → Holds ρ I (F c) w' (ρ c) ch)) :
    OpOK P N ids o K B .undef ⟨c :: rc, [], [(c, some ch)]⟩ := by
  rintro K' B' h1 h2 - C a w ⟨hn, hd, ρ, F, hM, hS⟩ hlt Kn Q hK
  have hc' : lookB B' c = some ch0 := (h2 c (by simp)).trans hc
  obtain ⟨w', hx, hfr, hH⟩ := h K' B' h1 (fun d hd => h2 d (List.mem_cons_of_mem _ hd)) C ρ F a w hM hS hc'
  obtain ⟨hM', he⟩ := hM.turn hc' hfr hH
  unfold Oper.wp
  rw [hx, Oper.upon_skip]
  exact hK _ _ ⟨put_size.trans hn, put_defers.trans hd, ρ, F, hM', (hS.mono he fun _ _ _ => rfl).putO (fun e he => by rw [hn]; exact hlt e he) rfl⟩
/-- A map of functions, as an object. -/
def wayO (es : List (El uI × El .fn)) : Ob where
  R := fun I F w p => Holds (fun _ => ⟨0, none, 0, 0⟩) I F w p (.map uI .fn es)
  stable := fun I F w I' w' p h he hF hz => Holds.stable he hF hz _ (fun _ _ => rfl) h
def isWay (es : List (El uI × El .fn)) (ch : Ch) : Prop := ch = .map uI .fn es ∨ ch = .obj (wayO es)
theorem isWay.holds {es : List (El uI × El .fn)} {ch : Ch} (h : isWay es ch) {ρ : Nat → Pl} {I F : Nat → Prop} {w : World} {p : Pl} : Holds ρ I F w p ch ↔ (∀ b, F b ↔ b = p.blk) ∧ ∃ ents clock, w.heap[p.blk]? = some (.map (List.toArray ents) clock) ∧ MapU I w uI .fn es ents ∧ Births ents clock := by
  rcases h with rfl | rfl
  · exact Iff.rfl
  · exact Iff.rfl
theorem opOK_insFn {o : Oper} {T kt et : TypeId} {x i v : Operand} {c f d1 d2 d3 m1 m2 m3 b1 b2 b3 : Nat} (ho : o.op = .insert T x i v) (hT : P.underlying T = some (.map kt et)) (hkt : P.underlying kt = some (.int .i64)) {es : List (El uI × El .fn)} {ch ch' : Ch} (hx : opv K x = .c (.one (.mp c))) {key : Int} (hk : opv K i = .c (.one (.d (.int .i64 key))))
    (hv : opv K v = .c (.one (.clo f [.p d1 0, .p d2 0, .p d3 0]))) (h1 : lookB B m1 = some (.dep d1 (isAt b1))) (h2 : lookB B m2 = some (.dep d2 (isAt b2))) (h3 : lookB B m3 = some (.dep d3 (isAt b3)))
    (hc : lookB B c = some ch) (hw : isWay es ch) (hw' : isWay (mput (ku := uI) (vu := .fn) es key (f, [b1, b2, b3])) ch') (N : Nat) : OpOK P N ids o K B .undef ⟨[c, m1, m2, m3], [], [(c, some ch')]⟩ := by
  have n1 : x ∈ o.op.operands := by rw [ho]; simp [Op.operands]
  have n2 : i ∈ o.op.operands := by rw [ho]; simp [Op.operands]
  have n3 : v ∈ o.op.operands := by rw [ho]; simp [Op.operands]
  refine OpOK.turnR hc fun K' B' g1 g2 C ρ F a w hM hS hl' => ?_
  obtain ⟨hF, ents, clock, hb, hm, hB⟩ := hw.holds.1 (hM.holds c _ hl')
  have e1 := hS.mp ((g1 x n1).trans hx)
  have e2 : a.eval i = .int .i64 key := hS.int ((g1 i n2).trans hk)
  have e3 : a.eval v = fnV (f, [b1, b2, b3]) := by
    have h := hS.ev ((g1 v n3).trans hv)
    obtain ⟨vs, e, v1, r1, e1, q1, v2, r2, e2, q2, v3, r3, e3, q3, q4⟩ := h
    have k1 := mark_blk (N := N) (a := a) hM ((g2 m1 (by simp)).trans h1)
    have k2 := mark_blk (N := N) (a := a) hM ((g2 m2 (by simp)).trans h2)
    have k3 := mark_blk (N := N) (a := a) hM ((g2 m3 (by simp)).trans h3)
    have q1 : v1 = .pointer (some ⟨(ρ d1).blk, 0, none⟩) := q1
    have q2 : v2 = .pointer (some ⟨(ρ d2).blk, 0, none⟩) := q2
    have q3 : v3 = .pointer (some ⟨(ρ d3).blk, 0, none⟩) := q3
    have q4 : r3 = [] := q4
    rw [e, e1, e2, e3, q1, q2, q3, q4, k1, k2, k3]
    rfl
  have hD : DenE (Imm C B' F w) w .fn (f, [b1, b2, b3]) (fnV (f, [b1, b2, b3])) := ⟨rfl, ⟨fun _ => rfl, fun e => by cases e⟩, rfl⟩
  obtain ⟨es', clock', hr, hm', hB'⟩ := update_run (P := P) (ku := uI) (vu := .fn) hT hkt rfl hb hm hB key hD
  have hlt := lt_of_heap hb
  refine ⟨{ w with heap := w.heap.setIfInBounds (ρ c).blk (.map (List.toArray es') clock') }, ?_, map_fr ((hF _).2 rfl), fun I hE => hw'.holds.2 ⟨hF, es', clock', by simp [hlt], hm'.mono hE, hB'⟩⟩
  have hr : (Instr.mapUpdate T (.map (some (ρ c).blk)) (.int .i64 key) (fnV (f, [b1, b2, b3]))).run P w = .ok () { w with heap := w.heap.setIfInBounds (ρ c).blk (.map (List.toArray es') clock') } := hr
  simp only [execOp, ho, Sem.run_bind, e1, e2, e3, hr, Result.andThen_ok, Sem.run_pure]
def getV (x : Option (El .fn)) : SV := match x with
  | some x => .tup [.one (.d (.fn x)), .one (.d (.lit true))]
  | none => .tup [.one .any, .one (.d (.lit false))]
theorem denE_fn {I : Nat → Prop} {w : World} {x : El .fn} {v : Value} (h : DenE I w .fn x v) : v = fnV x := by
  have h1 := h.2.1.1 rfl
  have h2 := h.2.2
  rw [h1] at h2
  have h2 : some v = some (fnV x) := h2
  injection h2
theorem opOK_getFn {tt : Tr} (hP : TblOK P tt) {o : Oper} {T kt et : TypeId} {x i : Operand} {c : Nat} (ho : o.op = .lookup T x i true) (hT : P.underlying T = some (.map kt et)) (hkt : P.underlying kt = some (.int .i64)) {ti : TI} (hti : tt.find et = some ti) {es : List (El uI × El .fn)} (hx : opv K x = .c (.one (.mp c))) {key : Int} (hk : opv K i = .c (.one (.d (.int .i64 key))))
    (hc : lookB B c = some (.obj (wayO es))) {r : Option (El .fn)} (hr : mget (ku := uI) (vu := .fn) es key = r) (N : Nat) : OpOK P N ids o K B (getV r) ⟨[c], [], []⟩ := by
  have n1 : x ∈ o.op.operands := by rw [ho]; simp [Op.operands]
  have n2 : i ∈ o.op.operands := by rw [ho]; simp [Op.operands]
  subst hr
  obtain ⟨ie, d, hok⟩ := hP.at_ hti
  obtain ⟨z, hz, hzl⟩ := hok.zero
  refine OpOK.val fun K' B' g1 g2 C ρ F a w hM hS => ?_
  obtain ⟨hF, ents, clock, hb, hm, hB⟩ := (isWay.holds (.inr rfl)).1 (hM.holds c _ ((g2 c (by simp)).trans hc))
  have e1 := hS.mp ((g1 x n1).trans hx)
  have e2 : a.eval i = .int .i64 key := hS.int ((g1 i n2).trans hk)
  have hzv : (zeroValue et).run P w = .ok z w := by simp [zeroValue, typeInfo, hok.info, hz]
  have hck := fun e => MapKept.run_checkKey (P := P) (w := w) hkt (keyD_isKey (ku := uI) (d := .int .i64) rfl key) e 9999
  rcases findNow_map (I := Imm C B' F w) (w := w) (ku := uI) (vu := .fn) (d := .int .i64) rfl key es ents 0 hm with ⟨a1, a2, _⟩ | ⟨j, y, e, a1, a2, _, _, a5, _⟩
  · have hf := MapKept.run_findKey (P := P) (w := w) hkt a1
    refine ⟨.tuple #[z, .bool false], ?_, by rw [a2]; exact ⟨[z, .bool false], rfl, _, _, rfl, trivial, _, _, rfl, rfl, rfl⟩⟩
    have hr : (Instr.lookup T (.map (some (ρ c).blk)) (.int .i64 key) true).run P w = .ok (.tuple #[z, .bool false]) w := by
      simp only [keyV] at hck hf
      simp [Instr.lookup, run_underlying hT, MapKept.run_getObj_map hb, hck, hf, hzv, Result.andThen]
    simp only [execOp, ho, Sem.run_bind, e1, e2, hr, Result.andThen_ok, Sem.run_pure]
  · have hf := MapKept.run_findKey (P := P) (w := w) hkt a1
    have hy := denE_fn a5
    refine ⟨.tuple #[fnV y, .bool true], ?_, by rw [a2]; exact ⟨[fnV y, .bool true], rfl, _, _, rfl, rfl, _, _, rfl, rfl, rfl⟩⟩
    have hr : (Instr.lookup T (.map (some (ρ c).blk)) (.int .i64 key) true).run P w = .ok (.tuple #[fnV y, .bool true]) w := by
      simp only [keyV] at hck hf
      simp [Instr.lookup, run_underlying hT, MapKept.run_getObj_map hb, hck, hf, Result.andThen, hy]
    simp only [execOp, ho, Sem.run_bind, e1, e2, hr, Result.andThen_ok, Sem.run_pure]
theorem Le.ofFn3 (s f d1 d2 d3 m1 m2 m3 b1 b2 b3 : Nat) (hs : look K s = .c (.one (.d (.fn (f, [b1, b2, b3]))))) (h1 : lookB B m1 = some (.dep d1 (isAt b1))) (h2 : lookB B m2 = some (.dep d2 (isAt b2))) (h3 : lookB B m3 = some (.dep d3 (isAt b3))) : Le ids K B ((s, .c (.one (.clo f [.p d1 0, .p d2 0, .p d3 0]))) :: K) B := by
  rintro N C a w ⟨hn, hd, ρ, F, hM, hS⟩
  refine ⟨hn, hd, ρ, F, hM, fun t => ?_⟩
  rw [look_cons]
  split
  · rename_i e
    subst e
    have h := hS s
    rw [hs] at h
    have h : a.tmps.getD s undef = fnV (f, [b1, b2, b3]) := h
    have k1 := mark_blk (N := N) (a := a) hM h1
    have k2 := mark_blk (N := N) (a := a) hM h2
    have k3 := mark_blk (N := N) (a := a) hM h3
    exact ⟨_, h, _, _, rfl, by rw [← k1]; rfl, _, _, rfl, by rw [← k2]; rfl, _, _, rfl, by rw [← k3]; rfl, rfl⟩
  · exact hS t
end
/-! What is left of a job: numbers as the keys of a map. -/
/-! ### what is left: cells of a map -/
@[reducible] def esP (k : Nat) : El uI × El uI := @Prod.mk Int Int (k : Int) 1
@[reducible] def esL (l : List Nat) : List (El uI × El uI) := l.map esP
def lput (l : List Nat) (k : Nat) : List Nat := if k ∈ l then l else l ++ [k]
theorem esL_len (l : List Nat) : (esL l).length = l.length := List.length_map _
theorem eqKey_nat (a b : Nat) : eqKey uI (a : Int) (b : Int) = decide (a = b) := by
  show decide ((a : Int) = (b : Int)) = _
  by_cases h : a = b
  · rw [decide_eq_true h, decide_eq_true (by omega)]
  · rw [decide_eq_false h, decide_eq_false (by omega)]
theorem mput_t {l : List (El uI × El uI)} {p : El uI × El uI} {k x : Int} (h : eqKey uI k p.1 = true) : mput (ku := uI) (vu := uI) (p :: l) k x = @Prod.mk Int Int k x :: l := by
  simp only [mput, h]
  rfl
theorem mput_f {l : List (El uI × El uI)} {p : El uI × El uI} {k x : Int} (h : eqKey uI k p.1 = false) : mput (ku := uI) (vu := uI) (p :: l) k x = p :: mput (ku := uI) (vu := uI) l k x := by
  simp only [mput, h]
theorem mdel_t {l : List (El uI × El uI)} {p : El uI × El uI} {k : Int} (h : eqKey uI k p.1 = true) : mdel (ku := uI) (vu := uI) (p :: l) k = l := by
  simp only [mdel, h]
theorem mdel_f {l : List (El uI × El uI)} {p : El uI × El uI} {k : Int} (h : eqKey uI k p.1 = false) : mdel (ku := uI) (vu := uI) (p :: l) k = p :: mdel (ku := uI) (vu := uI) l k := by
  simp only [mdel, h]
theorem mput_esL (k : Nat) : ∀ l : List Nat, mput (ku := uI) (vu := uI) (esL l) (k : Int) (1 : Int) = esL (lput l k)
  | [] => rfl
  | x :: l => by
    by_cases h : k = x
    · refine (mput_t (p := esP x) (l := esL l) ((eqKey_nat k x).trans (decide_eq_true h))).trans ?_
      subst h
      unfold lput
      rw [if_pos (List.mem_cons_self ..)]
      rfl
    · refine (mput_f (p := esP x) (l := esL l) ((eqKey_nat k x).trans (decide_eq_false h))).trans ?_
      rw [mput_esL k l]
      unfold lput
      by_cases h2 : k ∈ l
      · rw [if_pos h2, if_pos (List.mem_cons_of_mem _ h2)]
        rfl
      · rw [if_neg h2, if_neg (fun e => by rcases List.mem_cons.1 e with e | e; exact h e; exact h2 e)]
        rfl
theorem mdel_esL (k : Nat) : ∀ l : List Nat, mdel (ku := uI) (vu := uI) (esL l) (k : Int) = esL (l.erase k)
  | [] => rfl
  | x :: l => by
    by_cases h : k = x
    · refine (mdel_t (p := esP x) (l := esL l) ((eqKey_nat k x).trans (decide_eq_true h))).trans ?_
      subst h
      rw [List.erase_cons_head]
    · refine (mdel_f (p := esP x) (l := esL l) ((eqKey_nat k x).trans (decide_eq_false h))).trans ?_
      rw [mdel_esL k l, List.erase_cons_tail (by simpa using fun e => h e.symm)]
      rfl
theorem lput_mem {l : List Nat} {k x : Nat} : x ∈ lput l k ↔ x ∈ l ∨ x = k := by
  unfold lput
  split
  · rename_i h
    exact ⟨.inl, fun h' => h'.elim id fun e => e ▸ h⟩
  · rw [List.mem_append, List.mem_singleton]
theorem lput_nodup {l : List Nat} {k : Nat} (h : l.Nodup) : (lput l k).Nodup := by
  unfold lput
  split
  · exact h
  · rename_i hk
    rw [List.nodup_append]
    refine ⟨h, by simp, fun a ha b hb e => ?_⟩
    rw [List.mem_singleton] at hb
    subst hb e
    exact hk ha
theorem lput_len (l : List Nat) (k : Nat) : l.length ≤ (lput l k).length ∧ (lput l k).length ≤ l.length + 1 := by
  unfold lput
  split
  · omega
  · rw [List.length_append, List.length_singleton]; omega
theorem mkeys_esL (l : List Nat) : mkeysI (esL l) = l.map fun k : Nat => (k : Int) := by
  unfold mkeysI esL
  rw [List.map_map]
  rfl
theorem esL_nodup {l : List Nat} (h : l.Nodup) : (mkeysI (esL l)).Nodup := by
  rw [mkeys_esL]
  exact nodup_map (fun x _ y _ e => by have e : (x : Int) = (y : Int) := e; omega) h
theorem esL_wf {l : List Nat} (h : ∀ k, k ∈ l → k ≤ 1000000) : ∀ s ∈ mkeysI (esL l), (Lit.int .i64 s).wf = true := fun s hs => by
  rw [mkeys_esL] at hs
  obtain ⟨k, hk, rfl⟩ := List.mem_map.1 hs
  have := h k hk
  show (decide (IntKind.i64.min ≤ (k : Int)) && decide ((k : Int) ≤ IntKind.i64.max)) = true
  rw [decide_eq_true (show (IntKind.i64.min : Int) ≤ (k : Int) from Int.le_trans (by decide : IntKind.i64.min ≤ (0 : Int)) (by omega)), decide_eq_true (show (k : Int) ≤ IntKind.i64.max from Int.le_trans (by omega : (k : Int) ≤ 1000000) (by decide))]
  rfl
/-- The least one. -/
def mnN (l : List Nat) : Nat := (mnL (l.map fun k : Nat => (k : Int))).toNat
theorem mnN_spec {l : List Nat} (h : l ≠ []) : mnL (l.map fun k : Nat => (k : Int)) = ((mnN l : Nat) : Int) ∧ mnN l ∈ l ∧ ∀ y, y ∈ l → mnN l ≤ y := by
  have hne : l.map (fun k : Nat => (k : Int)) ≠ [] := by simpa using h
  obtain ⟨h1, h2⟩ := mnL_spec hne
  obtain ⟨k, hk, he⟩ := List.mem_map.1 h1
  have hm : mnN l = k := by unfold mnN; rw [← he]; rfl
  refine ⟨by rw [hm, he], by rw [hm]; exact hk, fun y hy => ?_⟩
  have := h2 _ (List.mem_map_of_mem hy)
  rw [hm]
  omega
end Go.Proofs.YtolaecebfkdbcaaGreat
