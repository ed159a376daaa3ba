/-
  Maps from keys to objects, as one object.
-/
import Derived.Test.YtbcngglcaeehbaaRg
set_option linter.unusedVariables false
set_option linter.unusedSimpArgs false
namespace Go.Proofs.Ytbcngglcaeehbaa
open Go.RowKit
@[reducible] def adrE (b : Nat) : El .adr := (some b : Option Nat)
def zipA {ku : U} : List (El ku × Ob) → List Nat → List (El ku × El .adr)
  | p :: l, a :: as => (p.1, adrE a) :: zipA l as
  | _, _ => []
def zipO {ku : U} : List (El ku × Ob) → List Nat → List (Nat × Ob)
  | p :: l, a :: as => (a, p.2) :: zipO l as
  | _, _ => []
theorem zipA_snoc {ku : U} (k : El ku) (o : Ob) (b : Nat) : ∀ {l : List (El ku × Ob)} {as : List Nat}, as.length = l.length → zipA (l ++ [(k, o)]) (as ++ [b]) = zipA l as ++ [(k, adrE b)]
  | [], [], _ => rfl
  | p :: l, a :: as, h => by
    simp only [List.cons_append, zipA]
    rw [zipA_snoc k o b (by simpa using h)]
theorem zipO_snoc {ku : U} (k : El ku) (o : Ob) (b : Nat) : ∀ {l : List (El ku × Ob)} {as : List Nat}, as.length = l.length → zipO (l ++ [(k, o)]) (as ++ [b]) = zipO l as ++ [(b, o)]
  | [], [], _ => rfl
  | p :: l, a :: as, h => by
    simp only [List.cons_append, zipO]
    rw [zipO_snoc k o b (by simpa using h)]
theorem zipA_keys {ku : U} : ∀ {l : List (El ku × Ob)} {as : List Nat}, as.length = l.length → (zipA l as).map (·.1) = l.map (·.1)
  | [], [], _ => rfl
  | p :: l, a :: as, h => by simp [zipA, zipA_keys (by simpa using h : as.length = l.length)]
theorem mput_newO {ku vu : U} (k : El ku) (x : El vu) : ∀ {l : List (El ku × El vu)}, (∀ p ∈ l, eqKey ku k p.1 = false) → mput l k x = l ++ [(k, x)]
  | [], _ => rfl
  | p :: l, h => by
    unfold mput
    rw [h p (List.mem_cons_self ..)]
    simp only
    rw [mput_newO k x fun q hq => h q (List.mem_cons_of_mem _ hq)]
    rfl
theorem poolR.snoc {I : Nat → Prop} {w : World} {o : Ob} {p : Pl} {F1 : Nat → Prop} (ho : o.R I F1 w p) : ∀ {L : List (Nat × Ob)} {F : Nat → Prop}, poolR I w L F → (∀ x, F1 x → ¬ F x) → poolR I w (L ++ [(p.blk, o)]) (fun x => F1 x ∨ F x)
  | [], F, h, hd => ⟨F1, F, p, fun x => Iff.rfl, hd, rfl, ho, h⟩
  | (a, q) :: L, F, ⟨G1, G2, r, h1, h2, h3, h4, h5⟩, hd =>
    ⟨G1, fun x => F1 x ∨ G2 x, r, fun x => by
        show (F1 x ∨ F x) ↔ (G1 x ∨ (F1 x ∨ G2 x))
        rw [h1]
        constructor
        · intro h
          rcases h with h | h | h
          · exact .inr (.inl h)
          · exact .inl h
          · exact .inr (.inr h)
        · intro h
          rcases h with h | h | h
          · exact .inr (.inl h)
          · exact .inl h
          · exact .inr (.inr h),
      fun x hx h => by
        rcases h with h | h
        · exact hd x h ((h1 x).2 (.inl hx))
        · exact h2 x hx h,
      h3, h4, poolR.snoc ho h5 fun x hx h => hd x hx ((h1 x).2 (.inr h))⟩
def mapOR (ku : U) (l : List (El ku × Ob)) (I F : Nat → Prop) (w : World) (p : Pl) : Prop :=
  ∃ (as : List Nat) (F2 : Nat → Prop), as.length = l.length ∧ (∀ x, F x ↔ x = p.blk ∨ F2 x) ∧ ¬ F2 p.blk ∧
    (∃ ents clock, w.heap[p.blk]? = some (.map (List.toArray ents) clock) ∧ MapU I w ku .adr (zipA l as) ents ∧ Births ents clock) ∧ poolR I w (zipO l as) F2
def Ob.mapO (ku : U) (l : List (El ku × Ob)) : Ob where
  R := mapOR ku l
  stable := fun I F w I' w' p ⟨as, F2, h1, h2, h3, ⟨ents, clock, h4, h5, h6⟩, h7⟩ he hF hz =>
    ⟨as, F2, h1, h2, h3, ⟨ents, clock, (hF _ ((h2 _).2 (.inl rfl))).trans h4, h5.mono he, h6⟩, h7.stable he hz fun b hb => hF b ((h2 b).2 (.inr hb))⟩
section
variable {P : Program} {ids : List Nat} {K : KL} {B : BL}
theorem Le.emptyMapO (c : Nat) {ku : U} (hc : lookB B c = some (.map ku .adr [])) : Le ids K B K ((c, .obj (.mapO ku [])) :: B) := by
  rintro N C a w ⟨hn, hd, ρ, F, hM, hS⟩
  obtain ⟨hF, ents, clock, h3, h4, h6⟩ := hM.holds c _ hc
  obtain ⟨hM', hE⟩ := hM.turn (w' := w) (ch := .obj (.mapO ku [])) hc (Fr.refl _ _) fun I hI => ⟨[], fun _ => False, rfl, fun x => by rw [hF]; simp, fun h => h, ⟨ents, clock, h3, h4.mono hI, h6⟩, fun _ h => h⟩
  exact ⟨hn, hd, ρ, F, hM', hS.mono hE fun _ _ _ => rfl⟩
/-- A map to objects, laid open: the map of addresses, the pool. -/
theorem LeX.openMapO (c q : Nat) {ku : U} {l : List (El ku × Ob)} (hc : lookB B c = some (.obj (.mapO ku l))) (hf : freshB ids K B q = true) : LeX ids K B (X := { as : List Nat // as.length = l.length }) (fun _ => K) (fun as => (q, .obj (.pool (zipO l as.1))) :: (c, .map ku .adr (zipA l as.1)) :: B) := by
  rintro N C a w ⟨hn, hd, ρ, F, hM, hS⟩
  obtain ⟨as, F2, h1, h2, h3, ⟨ents, clock, h4, h5, h6⟩, h7⟩ : mapOR ku l (Imm C B F w) (F c) w (ρ c) := hM.holds c _ hc
  have hfr := fresh_of hf
  have hqc : q ≠ c := fun e => by rw [e, hc] at hfr; cases hfr.2.1
  obtain ⟨hM', hE⟩ := hM.step (B' := (q, .obj (.pool (zipO l as))) :: (c, .map ku .adr (zipA l as)) :: B) (ρ' := ρ) (F' := upd (upd F c (fun x => x = (ρ c).blk)) q F2) (w' := w) (fun d => d = c ∨ d = q) (fun _ => False) (Fr.refl _ _)
    (fun d ch hd hm => by
      rw [lookB_cons, if_neg (fun e => hm (.inr e.symm)), lookB_cons, if_neg (fun e => hm (.inl e.symm))] at hd
      exact hd)
    (fun _ _ => rfl) (fun d hm => by rw [upd_other _ _ (fun e => hm (.inr e)), upd_other _ _ (fun e => hm (.inl e))]) (fun _ _ h => h) (fun _ h => h.elim) (fun _ _ _ _ _ _ h => h)
    (fun d ch hd hm hE => by
      rw [lookB_cons] at hd
      split at hd
      · rename_i e
        subst e
        injection hd with hd
        subst hd
        rw [upd_same]
        exact h7.stable hE (Nat.le_refl _) fun _ _ => rfl
      · rename_i e
        rcases hm with rfl | rfl
        · rw [lookB_cons, if_pos rfl] at hd
          injection hd with hd
          subst hd
          rw [upd_other _ _ (Ne.symm hqc), upd_same]
          exact ⟨fun b => Iff.rfl, ents, clock, h4, h5.mono hE, h6⟩
        · exact absurd rfl e)
    (fun d ch hd hm x hx => by
      have hin : F c x := by
        rcases hm with rfl | rfl
        · rw [upd_other _ _ (Ne.symm hqc), upd_same] at hx
          exact (h2 x).2 (.inl hx)
        · rw [upd_same] at hx
          exact (h2 x).2 (.inr hx)
      exact ⟨(hM.own c _ hc x hin).1, .inl ⟨c, _, hc, .inl rfl, hin⟩⟩)
    (fun d d' ch ch' x hd hd' hm hm' hne hx hx' => by
      rcases hm with rfl | rfl <;> rcases hm' with rfl | rfl
      · exact hne rfl
      · rw [upd_other _ _ (Ne.symm hqc), upd_same] at hx
        rw [upd_same] at hx'
        rw [hx] at hx'
        exact h3 hx'
      · rw [upd_other _ _ (Ne.symm hqc), upd_same] at hx'
        rw [upd_same] at hx
        rw [hx'] at hx
        exact h3 hx
      · exact hne rfl)
  exact ⟨⟨as, h1⟩, hn, hd, ρ, _, hM', hS.mono hE fun _ _ _ => rfl⟩
theorem opOK_putO {o : Oper} {T kt et : TypeId} {x i v : Operand} {c d : Nat} (ho : o.op = .mapUpdate T x i v) (hT : P.underlying T = some (.map kt et)) {dk : TypeDesc} (hkt : P.underlying kt = some dk) {ku : U} (hd : keyD ku dk = true)
    (hx : opv K x = .c (.one (.mp c))) {key : El ku} (hk : keyS ku (opv K i) = some key) (hv : opv K v = .c (.one (.ptr d 0))) {l : List (El ku × Ob)} {ob : Ob} (hc : lookB B c = some (.obj (.mapO ku l))) (hd2 : lookB B d = some (.obj ob)) (hne : c ≠ d)
    (hnew : ∀ p ∈ l, eqKey ku key p.1 = false) (N : Nat) : OpOK P N ids o K B .undef ⟨[c, d], [], [(d, none), (c, some (.obj (.mapO ku (l ++ [(key, ob)]))))]⟩ := by
  have m1 : x ∈ o.op.operands := by rw [ho]; simp [Op.operands]
  have m2 : i ∈ o.op.operands := by rw [ho]; simp [Op.operands]
  have m3 : v ∈ o.op.operands := by rw [ho]; simp [Op.operands]
  rintro K' B' g1 g2 - C a w ⟨hn, hdf, ρ, F, hM, hS⟩ hlt Kn Q hK
  have hc' := (g2 c (by simp)).trans hc
  have hd' := (g2 d (by simp)).trans hd2
  obtain ⟨as, F2, h1, h2, h3, ⟨ents, clock, h4, h5, h6⟩, h7⟩ : mapOR ku l (Imm C B' F w) (F c) w (ρ c) := hM.holds c _ hc'
  have hO : ob.R (Imm C B' F w) (F d) w (ρ d) := hM.holds d _ hd'
  have e1 := hS.mp ((g1 x m1).trans hx)
  have e2 : a.eval i = keyV ku key := keyS_den hk (hS.ev (g1 i m2))
  have e3 : a.eval v = .pointer (some ⟨(ρ d).blk, 0, none⟩) := hS.ev ((g1 v m3).trans hv)
  have e4 : DenE (Imm C B' F w) w .adr (adrE (ρ d).blk) (a.eval v) := by
    rw [e3]
    exact ⟨rfl, ⟨fun _ => rfl, fun h => by cases h⟩, rfl⟩
  obtain ⟨es', clock', hr, hm', hB'⟩ := update_run (P := P) hT hkt hd h4 h5 h6 key e4
  have hdj : ∀ y, F d y → ¬ F c y := fun y hy hy' => hM.disj d c _ _ y hd' hc' (Ne.symm hne) hy hy'
  have hlt2 := (Array.getElem?_eq_some_iff.1 h4).1
  have hkeys : ∀ p ∈ zipA l as, eqKey ku key p.1 = false := fun p hp => by
    have : p.1 ∈ (zipA l as).map (·.1) := List.mem_map_of_mem hp
    rw [zipA_keys h1] at this
    obtain ⟨q, hq, e⟩ := List.mem_map.1 this
    rw [← e]
    exact hnew q hq
  rw [mput_newO _ _ hkeys] at hm'
  have hfrB : ∀ y, y ≠ (ρ c).blk → ({ w with heap := w.heap.setIfInBounds (ρ c).blk (.map (List.toArray es') clock') } : World).heap[y]? = w.heap[y]? := fun y hy => Array.getElem?_setIfInBounds_ne (Ne.symm hy)
  unfold Oper.wp
  have hx : (execOp a.eval o).run P w = .ok .skip { w with heap := w.heap.setIfInBounds (ρ c).blk (.map (List.toArray es') clock') } := by simp only [execOp, ho, Sem.run_bind, e1, e2, hr, Result.andThen_ok, Sem.run_pure]
  rw [hx, Oper.upon_skip]
  obtain ⟨hM', hE⟩ := hM.step (B' := (c, .obj (.mapO ku (l ++ [(key, ob)]))) :: dropB B' d) (ρ' := ρ) (F' := upd F c (fun y => F c y ∨ F d y)) (w' := { w with heap := w.heap.setIfInBounds (ρ c).blk (.map (List.toArray es') clock') }) (fun j => j = d ∨ j = c) (fun _ => False)
    ((map_fr (S := F c) ((h2 _).2 (.inl rfl))).mono fun y _ hy => ⟨c, _, hc', .inr rfl, hy⟩)
    (fun j ch hj hm => by
      rw [lookB_cons, if_neg (fun e => hm (.inr e.symm)), lookB_dropB, if_neg (fun e => hm (.inl e.symm))] at hj
      exact hj)
    (fun _ _ => rfl) (fun j hm => upd_other _ _ (fun e => hm (.inr e))) (fun _ _ h => h) (fun _ h => h.elim) (fun _ _ _ _ _ _ h => h)
    (fun j ch hj hm hE => by
      rw [lookB_cons] at hj
      split at hj
      · rename_i e
        subst e
        injection hj with hj
        subst hj
        rw [upd_same]
        have hdc : ∀ y, F d y → y ≠ (ρ c).blk := fun y hy e => hdj y hy (e ▸ (h2 _).2 (.inl rfl))
        refine ⟨as ++ [(ρ d).blk], fun y => F d y ∨ F2 y, by simp [h1], fun y => ?_, ?_, ⟨es', clock', by simp [hlt2], ?_, hB'⟩, ?_⟩
        · show (F c y ∨ F d y) ↔ (y = (ρ c).blk ∨ (F d y ∨ F2 y))
          rw [h2]
          constructor
          · intro h
            rcases h with (h | h) | h
            · exact .inl h
            · exact .inr (.inr h)
            · exact .inr (.inl h)
          · intro h
            rcases h with h | h | h
            · exact .inl (.inl h)
            · exact .inr h
            · exact .inl (.inr h)
        · intro h
          rcases h with h | h
          · exact hdc _ h rfl
          · exact h3 h
        · rw [zipA_snoc key ob _ h1]
          exact hm'.mono hE
        · rw [zipO_snoc key ob _ h1]
          refine poolR.snoc (ob.stable _ _ _ _ _ _ hO hE (fun y hy => hfrB y (hdc y hy)) (by simp)) (h7.stable hE (by simp) fun y hy => hfrB y fun e => h3 (e ▸ hy)) fun y hy h => hdj y hy ((h2 y).2 (.inr h))
      · rename_i e
        rcases hm with rfl | rfl
        · rw [lookB_dropB, if_pos rfl] at hj; cases hj
        · exact absurd rfl e)
    (fun j ch hj hm y hy => by
      rw [lookB_cons] at hj
      split at hj
      · rename_i e
        subst e
        rw [upd_same] at hy
        rcases hy with hy | hy
        · exact ⟨by simpa using (hM.own c _ hc' y hy).1, .inl ⟨c, _, hc', .inr rfl, hy⟩⟩
        · exact ⟨by simpa using (hM.own d _ hd' y hy).1, .inl ⟨d, _, hd', .inl rfl, hy⟩⟩
      · rename_i e
        rcases hm with rfl | rfl
        · rw [lookB_dropB, if_pos rfl] at hj; cases hj
        · exact absurd rfl e)
    (fun j j' ch ch' y hj hj' hm hm' hnej => by
      have key : ∀ j ch, lookB ((c, Ch.obj (.mapO ku (l ++ [(key, ob)]))) :: dropB B' d) j = some ch → (j = d ∨ j = c) → j = c := fun j ch hj hm => by
        rcases hm with rfl | rfl
        · rw [lookB_cons, if_neg hne, lookB_dropB, if_pos rfl] at hj; cases hj
        · rfl
      exact absurd ((key j ch hj hm).trans (key j' ch' hj' hm').symm) hnej)
  exact hK _ _ ⟨put_size.trans hn, put_defers.trans hdf, ρ, _, hM', (hS.mono hE fun _ _ _ => rfl).putO (fun e he => by rw [hn]; exact hlt e he) rfl⟩
end
end Go.Proofs.Ytbcngglcaeehbaa
