/-
  Maps of functions without captures.
-/
import Derived.Test.YtolaecebfkdbcaaGreatKi
set_option linter.unusedVariables false
set_option linter.unusedSimpArgs false
namespace Go.Proofs.YtolaecebfkdbcaaGreat
open Go.RowKit Go.Proofs
open Go.ChangeMaps (setBlock map_eraseIdx)
section
variable {P : Program} {ids : List Nat} {K : KL} {B : BL}
theorem opOK_insFn0 {o : Oper} {T kt et : TypeId} {x i v : Operand} {c f : Nat} (ho : o.op = .insert T x i v) (hT : P.underlying T = some (.map kt et)) (hkt : P.underlying kt = some (.int .i64)) {es : List (El uI × El .fn)} {ch ch' : Ch} (hx : opv K x = .c (.one (.mp c))) {key : Int} (hk : opv K i = .c (.one (.d (.int .i64 key))))
    (hv : opv K v = .c (.one (.clo f []))) (hc : lookB B c = some ch) (hw : isWay es ch) (hw' : isWay (mput (ku := uI) (vu := .fn) es key (f, [])) ch') (N : Nat) : OpOK P N ids o K B .undef ⟨[c], [], [(c, some ch')]⟩ := by
  have n1 : x ∈ o.op.operands := by rw [ho]; simp [Op.operands]
  have n2 : i ∈ o.op.operands := by rw [ho]; simp [Op.operands]
  have n3 : v ∈ o.op.operands := by rw [ho]; simp [Op.operands]
  refine OpOK.turnR hc fun K' B' g1 g2 C ρ F a w hM hS hl' => ?_
  obtain ⟨hF, ents, clock, hb, hm, hB⟩ := hw.holds.1 (hM.holds c _ hl')
  have e1 := hS.mp ((g1 x n1).trans hx)
  have e2 : a.eval i = .int .i64 key := hS.int ((g1 i n2).trans hk)
  have e3 : a.eval v = fnV (f, []) := by
    have h := hS.ev ((g1 v n3).trans hv)
    obtain ⟨vs, e, q⟩ := h
    have q : vs = [] := q
    rw [e, q]
    rfl
  have hD : DenE (Imm C B' F w) w .fn (f, []) (fnV (f, [])) := ⟨rfl, ⟨fun _ => rfl, fun e => by cases e⟩, rfl⟩
  obtain ⟨es', clock', hr, hm', hB'⟩ := update_run (P := P) (ku := uI) (vu := .fn) hT hkt rfl hb hm hB key hD
  have hlt := lt_of_heap hb
  refine ⟨{ w with heap := w.heap.setIfInBounds (ρ c).blk (.map (List.toArray es') clock') }, ?_, map_fr ((hF _).2 rfl), fun I hE => hw'.holds.2 ⟨hF, es', clock', by simp [hlt], hm'.mono hE, hB'⟩⟩
  have hr : (Instr.mapUpdate T (.map (some (ρ c).blk)) (.int .i64 key) (fnV (f, []))).run P w = .ok () { w with heap := w.heap.setIfInBounds (ρ c).blk (.map (List.toArray es') clock') } := hr
  simp only [execOp, ho, Sem.run_bind, e1, e2, e3, hr, Result.andThen_ok, Sem.run_pure]
theorem opOK_getFn1 {o : Oper} {T kt et : TypeId} {x i : Operand} {c : Nat} (ho : o.op = .lookup T x i false) (hT : P.underlying T = some (.map kt et)) (hkt : P.underlying kt = some (.int .i64)) {es : List (El uI × El .fn)} (hx : opv K x = .c (.one (.mp c))) {key : Int} (hk : opv K i = .c (.one (.d (.int .i64 key))))
    (hc : lookB B c = some (.obj (wayO es))) {f : Nat} (hr : mget (ku := uI) (vu := .fn) es key = some (f, [])) (N : Nat) : OpOK P N ids o K B (.c (.one (.clo f []))) ⟨[c], [], []⟩ := by
  have n1 : x ∈ o.op.operands := by rw [ho]; simp [Op.operands]
  have n2 : i ∈ o.op.operands := by rw [ho]; simp [Op.operands]
  refine OpOK.val fun K' B' g1 g2 C ρ F a w hM hS => ?_
  obtain ⟨hF, ents, clock, hb, hm, hB⟩ := (isWay.holds (.inr rfl)).1 (hM.holds c _ ((g2 c (by simp)).trans hc))
  have e1 := hS.mp ((g1 x n1).trans hx)
  have e2 : a.eval i = .int .i64 key := hS.int ((g1 i n2).trans hk)
  have hck := fun e => MapKept.run_checkKey (P := P) (w := w) hkt (keyD_isKey (ku := uI) (d := .int .i64) rfl key) e 9999
  rcases findNow_map (I := Imm C B' F w) (w := w) (ku := uI) (vu := .fn) (d := .int .i64) rfl key es ents 0 hm with ⟨a1, a2, _⟩ | ⟨j, y, e, a1, a2, _, _, a5, _⟩
  · rw [a2] at hr; cases hr
  · have hf := MapKept.run_findKey (P := P) (w := w) hkt a1
    have hy := denE_fn a5
    rw [a2] at hr
    injection hr with hr
    subst hr
    refine ⟨fnV (f, []), ?_, ⟨_, rfl, rfl⟩⟩
    have hr : (Instr.lookup T (.map (some (ρ c).blk)) (.int .i64 key) false).run P w = .ok (fnV (f, [])) w := by
      simp only [keyV] at hck hf
      simp [Instr.lookup, run_underlying hT, MapKept.run_getObj_map hb, hck, hf, Result.andThen, hy]
    simp only [execOp, ho, Sem.run_bind, e1, e2, hr, Result.andThen_ok, Sem.run_pure]
theorem Le.ofFn0 (s f : Nat) (hs : look K s = .c (.one (.d (.fn (f, []))))) : Le ids K B ((s, .c (.one (.clo f []))) :: K) B := by
  rintro N C a w ⟨hn, hd, ρ, F, hM, hS⟩
  refine ⟨hn, hd, ρ, F, hM, fun t => ?_⟩
  rw [look_cons]
  split
  · rename_i e
    subst e
    have h := hS s
    rw [hs] at h
    have h : a.tmps.getD s undef = fnV (f, []) := h
    exact ⟨_, h, rfl⟩
  · exact hS t
end
end Go.Proofs.YtolaecebfkdbcaaGreat
