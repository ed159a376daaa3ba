/-
  Pointers as data into a pool of small blocks: read, written; a block of one's own put into a map and a pool.
-/
import Derived.Test.YtolaecebfkdbcaaGreatCd
import Derived.Test.YtolaecebfkdbcaaGreatAd
import Derived.Test.YtolaecebfkdbcaaGreatDa
import Derived.Test.YtolaecebfkdbcaaGreatGx
set_option linter.unusedVariables false
set_option linter.unusedSimpArgs false
set_option maxRecDepth 10000
namespace Go.Proofs.YtolaecebfkdbcaaGreat
open Go.RowKit Go.Proofs
/-- A block that names none, as an object. -/
def Ob.ch (ch : Ch) (h : ∀ c, ch.has c = false) : Ob where
  R := fun I F w p => Holds (fun _ => p) I F w p ch
  stable := fun I F w I' w' p hh he hF hz => Holds.stable he hF hz ch (fun c hc => absurd hc (by rw [h c]; decide)) hh
theorem Ob.ch_of {ch : Ch} (h : ∀ c, ch.has c = false) {ρ : Nat → Pl} {I F : Nat → Prop} {w : World} {p : Pl} (hh : Holds ρ I F w p ch) : (Ob.ch ch h).R I F w p :=
  Holds.stable (Ext.refl _ _) (fun _ _ => rfl) (Nat.le_refl _) ch (fun c hc => absurd hc (by rw [h c]; decide)) hh
section
variable {P : Program} {ids : List Nat} {K : KL} {B : BL}
theorem opOK_nilAdr {o : Oper} {x : Operand} {b : Nat} (ho : o.op = .nilCheck x) (hx : opv K x = .c (.one (.d (.adr (some b))))) (N : Nat) : OpOK P N ids o K B (.c (.one (.d (.adr (some b))))) ⟨[], [], []⟩ := by
  have hm : x ∈ o.op.operands := by rw [ho]; simp [Op.operands]
  refine OpOK.val fun K' B' g1 g2 C ρ F a w hM hS => ?_
  have hv : a.eval x = .pointer (some ⟨b, 0, none⟩) := hS.ev ((g1 x hm).trans hx)
  exact ⟨.pointer (some ⟨b, 0, none⟩), by simp [execOp, ho, hv], rfl⟩
theorem opOK_fieldAdr {o : Oper} {T : TypeId} {x : Operand} {f b off : Nat} {fs : Array Field} {fd : Field} (ho : o.op = .fieldAddr T x f) (hT : P.underlying T = some (.struct fs)) (hfd : fs[f]? = some fd) (hoff : fd.offset = off) {i : TypeInfo} (hi : P.info? fd.type = some i) (hsz : i.size ≠ 0) (hx : opv K x = .c (.one (.d (.adr (some b))))) (N : Nat) :
    OpOK P N ids o K B (.c (.one (.raw (.pointer (some ⟨b, off, none⟩))))) ⟨[], [], []⟩ := by
  have hm : x ∈ o.op.operands := by rw [ho]; simp [Op.operands]
  refine OpOK.val fun K' B' g1 g2 C ρ F a w hM hS => ?_
  have hv : a.eval x = .pointer (some ⟨b, 0, none⟩) := hS.ev ((g1 x hm).trans hx)
  have h := exec_field hv ho hT hfd hoff hi hsz (w := w)
  rw [Nat.zero_add] at h
  exact ⟨.pointer (some ⟨b, off, none⟩), h, rfl⟩
theorem pool_cell {I : Nat → Prop} {w : World} {L : List (Nat × Ob)} {F : Nat → Prop} {b : Nat} {l : List S1} {h : ∀ c, (Ch.cells l).has c = false} (hP : poolR I w L F) (hL : pget L b = some (Ob.ch (.cells l) h)) {j : Nat} {x : D} (hj : l[j]? = some (.d x)) : ∃ v, w.cell? ⟨b, j, none⟩ = some v ∧ Den I w x v := by
  obtain ⟨F1, F2, p, k1, k2, k3, k4, k5⟩ := hP.out hL
  obtain ⟨h1, vs, T', h2, h3⟩ := k4
  obtain ⟨v, hv, hd⟩ := DenL.get _ _ h3 j _ hj
  rw [k3] at h2
  exact ⟨v, cell_of h2 hv, hd⟩
theorem opOK_loadRaw {o : Oper} {T : TypeId} {x : Operand} {q b j : Nat} {y : D} {L : List (Nat × Ob)} {l : List S1} {h : ∀ c, (Ch.cells l).has c = false} {d : TypeDesc} (ho : o.op = .load T x) (hT : P.underlying T = some d) (hd : d.isRow = false) (hx : opv K x = .c (.one (.raw (.pointer (some ⟨b, j, none⟩)))))
    (hq : lookB B q = some (.obj (.pool L))) (hL : pget L b = some (Ob.ch (.cells l) h)) (hj : l[j]? = some (.d y)) (N : Nat) : OpOK P N ids o K B (.c (.one (.d y))) ⟨[q], [], []⟩ := by
  have hm : x ∈ o.op.operands := by rw [ho]; simp [Op.operands]
  refine OpOK.val fun K' B' g1 g2 C ρ F a w hM hS => ?_
  have hP : poolR (Imm C B' F w) w L (F q) := hM.holds q _ ((g2 q (by simp)).trans hq)
  have hv : a.eval x = .pointer (some ⟨b, j, none⟩) := hS.ev ((g1 x hm).trans hx)
  obtain ⟨v, h1, h2⟩ := pool_cell hP hL hj
  exact ⟨v, exec_load1 ho hv hT hd h1, h2⟩
theorem opOK_storeRaw {o : Oper} {T : TypeId} {x v : Operand} {q b j : Nat} {y : D} {L : List (Nat × Ob)} {l : List S1} {h : ∀ c, (Ch.cells l).has c = false} {h' : ∀ c, (Ch.cells (l.set j (.d y))).has c = false} {i : TypeInfo} (ho : o.op = .store T x v) (hi : P.info? T = some i) (hz : i.size = 1) (hx : opv K x = .c (.one (.raw (.pointer (some ⟨b, j, none⟩)))))
    (hv : opv K v = .c (.one (.d y))) (hq : lookB B q = some (.obj (.pool L))) (hL : pget L b = some (Ob.ch (.cells l) h)) (hj : j < l.length) (h1 : ∀ {I : Nat → Prop} {w : World} {z : Value}, Den I w y z → z.cells = List.toArray [z] ∧ z.oneCell' = true) (N : Nat) :
    OpOK P N ids o K B .undef ⟨[q], [], [(q, some (.obj (.pool (pset L b (Ob.ch (.cells (l.set j (.d y))) h')))))]⟩ := by
  have m1 : x ∈ o.op.operands := by rw [ho]; simp [Op.operands]
  have m2 : v ∈ o.op.operands := by rw [ho]; simp [Op.operands]
  refine OpOK.turn hq fun K' B' g1 C ρ F a w hM hS hq' => ?_
  have hP : poolR (Imm C B' F w) w L (F q) := hM.holds q _ hq'
  obtain ⟨F1, F2, p, k1, k2, k3, k4, k5⟩ := hP.out hL
  obtain ⟨c1, vs, T', c2, c3⟩ := k4
  have e1 : a.eval x = .pointer (some ⟨b, j, none⟩) := hS.ev ((g1 x m1).trans hx)
  have e2 : Den (Imm C B' F w) w y (a.eval v) := hS.ev ((g1 v m2).trans hv)
  obtain ⟨d1, d2⟩ := h1 e2
  have hlen : vs.length = l.length := DenL.length _ _ c3
  rw [k3] at c2
  have hrun := exec_store (P := P) (o := o) (ev := a.eval) (w := w) (us := [a.eval v]) ho e1 d1 hi hz c2 (by simp; omega) (fun z hz => by rw [List.mem_singleton] at hz; rw [hz]; exact d2)
  have hset : (w.setRow b (List.toArray (vs.take j ++ [a.eval v] ++ vs.drop (j + [a.eval v].length)))).heap[b]? = some (.cells (List.toArray (vs.take j ++ [a.eval v] ++ vs.drop (j + [a.eval v].length))) T' (0, 0)) := setRow_heap w _ _ _ T' _ c2
  have hb1 : F1 b := (c1 b).2 k3.symm
  have hFb : F q b := (k1 b).2 (.inl hb1)
  refine ⟨_, hrun, ⟨rfl, rfl, rfl, by simp [World.setRow], fun k _ hk => setRow_other w _ k _ (fun e => hk (e ▸ hFb))⟩, fun I hE => ?_⟩
  have hden : ∀ (l : List S1) (vs : List Value) (j : Nat), j < l.length → DenL (fun _ => p) (Imm C B' F w) w l vs → DenL (fun _ => p) (Imm C B' F w) w (l.set j (.d y)) (vs.take j ++ [a.eval v] ++ vs.drop (j + 1)) := fun l => by
    induction l with
    | nil => intro vs j hj; simp at hj
    | cons s l ih =>
      rintro _ j hj ⟨u, r, rfl, q1, q2⟩
      match j with
      | 0 => exact ⟨a.eval v, r, by simp, e2, q2⟩
      | j + 1 => exact ⟨u, _, rfl, q1, ih r j (by simpa using hj) q2⟩
  have hF1 : (fun z => F1 z ∨ F2 z) = F q := funext fun z => propext (k1 z).symm
  rw [← hF1]
  exact k5 I _ (Ob.ch (.cells (l.set j (.d y))) h') F1 p hE (by simp [World.setRow]) (fun z hz => setRow_other w _ z _ (fun e => k2 b hb1 (e ▸ hz))) k3
    ⟨c1, _, T', by rw [k3]; exact hset, DenL.mono hE _ _ (fun _ _ => rfl) (hden l vs j hj c3)⟩ k2
theorem opS_putPtr {o : Oper} {T kt et : TypeId} {x i v : Operand} {c d q : Nat} (ho : o.op = .mapUpdate T x i v) (hT : P.underlying T = some (.map kt et)) {dk : TypeDesc} (hkt : P.underlying kt = some dk) {ku : U} (hdk : keyD ku dk = true)
    (hx : opv K x = .c (.one (.mp c))) {key : El ku} (hk : keyS ku (opv K i) = some key) (hv : opv K v = .c (.one (.ptr d 0))) {es : List (El ku × El .adr)} {L : List (Nat × Ob)} {l : List S1} {h : ∀ c, (Ch.cells l).has c = false} (hc : lookB B c = some (.map ku .adr es)) (hd : lookB B d = some (.cells l)) (hq : lookB B q = some (.obj (.pool L)))
    (hcd : c ≠ d) (hcq : c ≠ q) (hdq : d ≠ q) (ha : ∀ p ∈ L, p.2.anch) :
    OpS P ids o K B (fun v' e => ∃ b : Nat, b ∉ L.map (·.1) ∧ v' = .undef ∧ e = ⟨[c, d, q], [], [(d, none), (c, some (.map ku .adr (mput (ku := ku) (vu := .adr) es key (some b)))), (q, some (.obj (.pool ((b, Ob.ch (.cells l) h) :: L))))]⟩) := by
  rintro N C a w ⟨hn, hdf, ρ, F, hM, hS⟩ hlt Kn Q hK
  obtain ⟨hFc, ents, clock, h4, h5, h6⟩ := hM.holds c _ hc
  have hcell := hM.holds d _ hd
  have hP : poolR (Imm C B F w) w L (F q) := hM.holds q _ hq
  have e1 := hS.mp hx
  have e2 : a.eval i = keyV ku key := keyS_den hk (hS.ev rfl)
  have e3 : a.eval v = .pointer (some ⟨(ρ d).blk, 0, none⟩) := hS.ev hv
  have e4 : DenE (Imm C B F w) w .adr (some (ρ d).blk : El .adr) (a.eval v) := by
    rw [e3]
    exact ⟨rfl, ⟨fun _ => rfl, fun h => by cases h⟩, rfl⟩
  obtain ⟨es', clock', hr, hm', hB'⟩ := update_run (P := P) hT hkt hdk h4 h5 h6 key e4
  have hlt2 := (Array.getElem?_eq_some_iff.1 h4).1
  have hFd : F d (ρ d).blk := (hcell.1 _).2 rfl
  have hnb : (ρ d).blk ∉ L.map (·.1) := fun hb => hM.disj d q _ _ _ hd hq hdq hFd (poolR_in ha hP hb)
  have hfrB : ∀ y, y ≠ (ρ c).blk → ({ w with heap := w.heap.setIfInBounds (ρ c).blk (.map (List.toArray es') clock') } : World).heap[y]? = w.heap[y]? := fun y hy => Array.getElem?_setIfInBounds_ne (Ne.symm hy)
  have hcb : F c (ρ c).blk := (hFc _).2 rfl
  have hdc : ∀ y, F d y → y ≠ (ρ c).blk := fun y hy e => hM.disj d c _ _ y hd hc (Ne.symm hcd) hy (e ▸ hcb)
  have hqc : ∀ y, F q y → y ≠ (ρ c).blk := fun y hy e => hM.disj q c _ _ y hq hc (Ne.symm hcq) hy (e ▸ hcb)
  have hxx : (execOp a.eval o).run P w = .ok .skip { w with heap := w.heap.setIfInBounds (ρ c).blk (.map (List.toArray es') clock') } := by simp only [execOp, ho, Sem.run_bind, e1, e2, hr, Result.andThen_ok, Sem.run_pure]
  unfold Oper.wp
  rw [hxx, Oper.upon_skip]
  have key2 : ∀ j ch, lookB ((q, Ch.obj (.pool (((ρ d).blk, Ob.ch (.cells l) h) :: L))) :: (c, .map ku .adr (mput (ku := ku) (vu := .adr) es key (some (ρ d).blk))) :: dropB B d) j = some ch → (j = c ∨ j = d ∨ j = q) → (j = q ∧ ch = .obj (.pool (((ρ d).blk, Ob.ch (.cells l) h) :: L))) ∨ (j = c ∧ ch = .map ku .adr (mput (ku := ku) (vu := .adr) es key (some (ρ d).blk))) := fun j ch hj hm => by
    rw [lookB_cons] at hj
    split at hj
    · rename_i e; injection hj with hj; exact .inl ⟨e.symm, hj.symm⟩
    · rename_i e
      rw [lookB_cons] at hj
      split at hj
      · rename_i e2; injection hj with hj; exact .inr ⟨e2.symm, hj.symm⟩
      · rename_i e2
        rcases hm with hm | hm | hm
        · exact absurd hm.symm e2
        · rw [hm, lookB_dropB, if_pos rfl] at hj; cases hj
        · exact absurd hm.symm e
  have eq1 : upd F q (fun y => F d y ∨ F q y) c = F c := upd_other _ _ hcq
  obtain ⟨hM', hE⟩ := hM.step (B' := (q, .obj (.pool (((ρ d).blk, Ob.ch (.cells l) h) :: L))) :: (c, .map ku .adr (mput (ku := ku) (vu := .adr) es key (some (ρ d).blk))) :: dropB B d) (ρ' := ρ) (F' := upd F q (fun y => F d y ∨ F q y)) (w' := { w with heap := w.heap.setIfInBounds (ρ c).blk (.map (List.toArray es') clock') }) (fun j => j = c ∨ j = d ∨ j = q) (fun _ => False)
    ((map_fr (S := F c) hcb).mono fun y _ hy => ⟨c, _, hc, .inl rfl, hy⟩)
    (fun j ch hj hm => by
      rw [lookB_cons, if_neg (fun e => hm (.inr (.inr e.symm))), lookB_cons, if_neg (fun e => hm (.inl e.symm)), lookB_dropB, if_neg (fun e => hm (.inr (.inl e.symm)))] at hj
      exact hj)
    (fun _ _ => rfl) (fun j hm => upd_other _ _ (fun e => hm (.inr (.inr e)))) (fun _ _ h => h) (fun _ h => h.elim) (fun _ _ _ _ _ _ h => h)
    (fun j ch hj hm hE => by
      rcases key2 j ch hj hm with ⟨rfl, rfl⟩ | ⟨rfl, rfl⟩
      · rw [upd_same]
        refine ⟨F d, F j, ρ d, fun _ => Iff.rfl, fun y hy hy' => hM.disj d j _ _ y hd hq hdq hy hy', rfl, ?_, hP.stable hE (by simp) fun y hy => hfrB y (hqc y hy)⟩
        exact (Ob.ch (.cells l) h).stable _ _ _ _ _ _ (Ob.ch_of h hcell) hE (fun y hy => hfrB y (hdc y hy)) (by simp)
      · rw [eq1]
        exact ⟨hFc, es', clock', by simp [hlt2], hm'.mono hE, hB'⟩)
    (fun j ch hj hm y hy => by
      rcases key2 j ch hj hm with ⟨rfl, rfl⟩ | ⟨rfl, rfl⟩
      · rw [upd_same] at hy
        rcases hy with hy | hy
        · exact ⟨by simpa using (hM.own d _ hd y hy).1, .inl ⟨d, _, hd, .inr (.inl rfl), hy⟩⟩
        · exact ⟨by simpa using (hM.own j _ hq y hy).1, .inl ⟨j, _, hq, .inr (.inr rfl), hy⟩⟩
      · rw [eq1] at hy
        exact ⟨by simpa using (hM.own j _ hc y hy).1, .inl ⟨j, _, hc, .inl rfl, hy⟩⟩)
    (fun j j' ch ch' y hj hj' hm hm' hne hy hy' => by
      rcases key2 j ch hj hm with ⟨rfl, rfl⟩ | ⟨rfl, rfl⟩ <;> rcases key2 j' ch' hj' hm' with ⟨rfl, rfl⟩ | ⟨rfl, rfl⟩
      · exact hne rfl
      · rw [upd_same] at hy
        rw [eq1] at hy'
        rcases hy with hy | hy
        · exact hM.disj d j' _ _ y hd hc (Ne.symm hcd) hy hy'
        · exact hM.disj j j' _ _ y hq hc (Ne.symm hcq) hy hy'
      · rw [upd_same] at hy'
        rw [eq1] at hy
        rcases hy' with hy' | hy'
        · exact hM.disj d j _ _ y hd hc (Ne.symm hcd) hy' hy
        · exact hM.disj j' j _ _ y hq hc (Ne.symm hcq) hy' hy
      · exact hne rfl)
  exact hK _ _ _ _ ⟨_, hnb, rfl, rfl⟩ ⟨put_size.trans hn, put_defers.trans hdf, ρ, _, hM', (hS.mono hE fun _ _ _ => rfl).putO (fun e he => by rw [hn]; exact hlt e he) rfl⟩
end
end Go.Proofs.YtolaecebfkdbcaaGreat
