/-
  Ranging over a map: the map's entries by their births, the iterator; what range, next, entry, delete do.
-/
import Derived.Test.YtolaecebfkdbcaaGreatGrp
import Derived.Maps.RangeRun
set_option linter.unusedVariables false
set_option linter.unusedSimpArgs false
namespace Go.Proofs.YtolaecebfkdbcaaGreat
open Go.RowKit
open Go.ChangeMaps (setBlock map_eraseIdx)

def keySC : (u : U) → El u → SC
  | .int k, n => .one (.d (.int k n))
  | .str, s => .one (.d (.str s))
  | _, _ => .one .any
/-- A map at b, its entries with their births. -/
def mapGR (b : Nat) (ku vu : U) (l : List (Nat × (El ku × El vu))) (clock : Nat) (I F : Nat → Prop) (w : World) (p : Pl) : Prop :=
  p.blk = b ∧ (∀ x, F x ↔ x = p.blk) ∧ ∃ ents, w.heap[p.blk]? = some (.map (List.toArray ents) clock) ∧ MapU I w ku vu (l.map (·.2)) ents ∧ ents.map (·.born) = l.map (·.1) ∧ Births ents clock
def Ob.mapG (b : Nat) (ku vu : U) (l : List (Nat × (El ku × El vu))) (clock : Nat) : Ob where
  R := mapGR b ku vu l clock
  stable := fun I F w I' w' p ⟨h1, h2, ents, h3, h4, h5, h6⟩ he hF hz => ⟨h1, h2, ents, (hF _ ((h2 _).2 rfl)).trans h3, h4.mono he, h5, h6⟩
/-- An iterator over the map at b. -/
def iterGR (b since : Nat) (seen : List Nat) (at_ : Nat) (I F : Nat → Prop) (w : World) (p : Pl) : Prop := (∀ x, F x ↔ x = p.blk) ∧ w.heap[p.blk]? = some (.mapIter (some b) since (List.toArray seen) at_)
def Ob.iterG (b since : Nat) (seen : List Nat) (at_ : Nat) : Ob where
  R := iterGR b since seen at_
  stable := fun I F w I' w' p ⟨h1, h2⟩ he hF hz => ⟨h1, (hF _ ((h1 _).2 rfl)).trans h2⟩
section
variable {P : Program} {ids : List Nat} {K : KL} {B : BL}
theorem births_list {ents : List MapEntry} {clock : Nat} (h : Births ents clock) : (ents.map (·.born)).Pairwise (· < ·) ∧ ∀ x ∈ ents.map (·.born), x < clock := ⟨h.1, fun x hx => by
  obtain ⟨e, he, rfl⟩ := List.mem_map.1 hx
  exact h.2 e he⟩
theorem zip_fst {α β : Type} : ∀ {l : List α} {m : List β}, l.length = m.length → (l.zip m).map (·.1) = l ∧ (l.zip m).map (·.2) = m
  | [], [], _ => ⟨rfl, rfl⟩
  | a :: l, b :: m, h => by
    obtain ⟨h1, h2⟩ := zip_fst (l := l) (m := m) (by simpa using h)
    simp [h1, h2]
/-- What naming a map gives. -/
structure NmX (ku vu : U) (es : List (El ku × El vu)) where
  b : Nat
  l : List (Nat × (El ku × El vu))
  clock : Nat
  snd : l.map (·.2) = es
  rise : (l.map (·.1)).Pairwise (· < ·)
  lt : ∀ x ∈ l.map (·.1), x < clock
theorem LeX.nameMap (c : Nat) {ku vu : U} {es : List (El ku × El vu)} (hc : lookB B c = some (.map ku vu es)) : LeX ids K B (X := NmX ku vu es) (fun _ => K) (fun x => (c, .obj (.mapG x.b ku vu x.l x.clock)) :: B) := by
  rintro N C a w ⟨hn, hd, ρ, F, hM, hS⟩
  obtain ⟨hF, ents, clock, hb, hm, hB⟩ := hM.holds c _ hc
  have hlen : (ents.map (·.born)).length = es.length := by rw [List.length_map, mapU_length hm]
  obtain ⟨z1, z2⟩ := zip_fst hlen
  obtain ⟨r1, r2⟩ := births_list hB
  let x : NmX ku vu es := ⟨(ρ c).blk, (ents.map (·.born)).zip es, clock, z2, by rw [z1]; exact r1, by rw [z1]; exact r2⟩
  obtain ⟨hM', hE⟩ := hM.turn (w' := w) (ch := .obj (.mapG x.b ku vu x.l x.clock)) hc (Fr.refl _ _) fun I hI => ⟨rfl, hF, ents, hb, by
    show MapU I w ku vu (((ents.map (·.born)).zip es).map (·.2)) ents
    rw [z2]; exact hm.mono hI, z1.symm, hB⟩
  exact ⟨x, hn, hd, ρ, F, hM', hS.mono hE fun _ _ _ => rfl⟩
theorem Le.mapOf (c : Nat) {b : Nat} {ku vu : U} {l : List (Nat × (El ku × El vu))} {clock : Nat} (hc : lookB B c = some (.obj (.mapG b ku vu l clock))) : Le ids K B K ((c, .map ku vu (l.map (·.2))) :: B) := by
  rintro N C a w ⟨hn, hd, ρ, F, hM, hS⟩
  obtain ⟨hb, hF, ents, h3, h4, h5, h6⟩ : mapGR b ku vu l clock _ (F c) w (ρ c) := hM.holds c _ hc
  obtain ⟨hM', hE⟩ := hM.turn (w' := w) (ch := .map ku vu (l.map (·.2))) hc (Fr.refl _ _) fun I hI => ⟨hF, ents, clock, h3, h4.mono hI, h6⟩
  exact ⟨hn, hd, ρ, F, hM', hS.mono hE fun _ _ _ => rfl⟩
/-! ### the operations -/
theorem opOK_range {o : Oper} {T kt et : TypeId} {x : Operand} {c d : Nat} (ho : o.op = .range T x) (hT : P.underlying T = some (.map kt et)) (hx : opv K x = .c (.one (.mp c))) {b : Nat} {ku vu : U} {l : List (Nat × (El ku × El vu))} {clock : Nat}
    (hc : lookB B c = some (.obj (.mapG b ku vu l clock))) (N : Nat) : OpOK P N ids o K B (.c (.one (.ptr d 0))) ⟨[c], [d], [(d, some (.obj (.iterG b clock [] clock)))]⟩ := by
  have hm : x ∈ o.op.operands := by rw [ho]; simp [Op.operands]
  refine OpOK.make (fun e he => (Nat.eq_of_beq_eq_true he).symm) fun K' B' g1 g2 C ρ F a w hM hS _ => ?_
  have hc' := (g2 c (by simp)).trans hc
  obtain ⟨hb, hF, ents, h3, h4, h5, h6⟩ : mapGR b ku vu l clock _ (F c) w (ρ c) := hM.holds c _ hc'
  have e1 := hS.mp ((g1 x hm).trans hx)
  refine ⟨.pointer (some ⟨w.heap.size, 0, none⟩), w.alloc (.mapIter (some (ρ c).blk) clock #[] clock), ⟨w.heap.size, none, 0, 0⟩, fun y => y = w.heap.size, ?_, (Below.refl _ _).alloc (Nat.le_refl _) _, fun y hy => ?_, fun I hE hI => ⟨⟨fun y => Iff.rfl, ?_⟩, ?_⟩⟩
  · simp [execOp, ho, e1, run_range_map w T kt et (ρ c).blk _ clock hT h3, Result.andThen]
  · subst hy; simp
  · rw [← hb]
    exact heap_alloc_new w _
  · show _ = Value.pointer (some ⟨(upd ρ d _ d).blk, 0, none⟩)
    rw [upd_same]
theorem mapU_get {I : Nat → Prop} {w : World} {ku vu : U} : ∀ {l : List (El ku × El vu)} {es : List MapEntry}, MapU I w ku vu l es → ∀ {j : Nat} {e : MapEntry}, es[j]? = some e → ∃ p, l[j]? = some p ∧ e.key = keyV ku p.1 ∧ DenE I w vu p.2 e.val
  | [], _, h, j, e, he => by rw [show _ = [] from h] at he; simp at he
  | p :: l, _, ⟨e', r, h, h1, h2, h3⟩, 0, e, he => by
    rw [h] at he
    simp only [List.getElem?_cons_zero, Option.some.injEq] at he
    subst he
    exact ⟨p, rfl, h1, h2⟩
  | p :: l, _, ⟨e', r, h, h1, h2, h3⟩, j + 1, e, he => by
    rw [h] at he
    simp only [List.getElem?_cons_succ] at he ⊢
    exact mapU_get h3 he
/-- An entry, by its birth. -/
theorem mapG_ent {b : Nat} {ku vu : U} {l : List (Nat × (El ku × El vu))} {I : Nat → Prop} {w : World} {ents : List MapEntry} (hm : MapU I w ku vu (l.map (·.2)) ents) (hb : ents.map (·.born) = l.map (·.1)) {e : MapEntry} (he : e ∈ ents) : ∃ p ∈ l, p.1 = e.born ∧ e.key = keyV ku p.2.1 ∧ DenE I w vu p.2.2 e.val := by
  obtain ⟨j, hj, rfl⟩ := List.getElem_of_mem he
  have hj' : ents[j]? = some ents[j] := List.getElem?_eq_getElem hj
  obtain ⟨q, hq, h1, h2⟩ := mapU_get hm hj'
  rw [List.getElem?_map] at hq
  obtain ⟨p, hp, rfl⟩ := Option.map_eq_some_iff.1 hq
  have hbj : (ents.map (·.born))[j]? = (l.map (·.1))[j]? := by rw [hb]
  rw [List.getElem?_map, List.getElem?_map, hj', hp] at hbj
  exact ⟨p, List.mem_of_getElem? hp, by simpa using hbj.symm, h1, h2⟩
theorem mapG_ent' {ku vu : U} {l : List (Nat × (El ku × El vu))} {I : Nat → Prop} {w : World} {ents : List MapEntry} (hm : MapU I w ku vu (l.map (·.2)) ents) (hb : ents.map (·.born) = l.map (·.1)) {p : Nat × (El ku × El vu)} (hp : p ∈ l) : ∃ e ∈ ents, e.born = p.1 ∧ e.key = keyV ku p.2.1 ∧ DenE I w vu p.2.2 e.val := by
  obtain ⟨j, hj, rfl⟩ := List.getElem_of_mem hp
  have hj' : l[j]? = some l[j] := List.getElem?_eq_getElem hj
  have hlen : ents.length = l.length := by have := congrArg List.length hb; simpa using this
  have he : ents[j]? = some (ents[j]'(by omega)) := List.getElem?_eq_getElem (by omega)
  obtain ⟨q, hq, h1, h2⟩ := mapU_get hm he
  rw [List.getElem?_map, hj'] at hq
  simp only [Option.map_some, Option.some.injEq] at hq
  subst hq
  have hbj : (ents.map (·.born))[j]? = (l.map (·.1))[j]? := by rw [hb]
  rw [List.getElem?_map, List.getElem?_map, hj', he] at hbj
  exact ⟨_, List.getElem_mem _, by simpa using hbj, h1, h2⟩
theorem keySC_den {ρ : Nat → Pl} {I : Nat → Prop} {w : World} : ∀ (u : U) (x : El u), DenC ρ I w (keySC u x) (keyV u x)
  | .int _, _ => rfl
  | .str, _ => rfl
  | .u8, _ => trivial
  | .bool, _ => trivial
  | .adr, _ => trivial
  | .hdl, _ => trivial
  | .fn, _ => trivial
  | .sl _, _ => trivial
  | .pr _ _, _ => trivial
  | .arr _ _, _ => trivial
def nextS (r b since : Nat) (seen : List Nat) (ku vu : U) (l : List (Nat × (El ku × El vu))) (clock c : Nat) (v : SV) (e : Eff) : Prop :=
  (∃ p ∈ l, p.1 ∉ seen ∧ v = .tup [.one (.d (.lit true)), keySC ku p.2.1, dataC vu p.2.2] ∧ e = ⟨[c, r], [], [(r, some (.obj (.iterG b since (seen ++ [p.1]) clock)))]⟩) ∨
  ((∀ p ∈ l, p.1 ∈ seen) ∧ v = .tup [.one (.d (.lit false))] ∧ e = e0)
theorem opS_next {o : Oper} {it : Operand} {c r : Nat} (ho : o.op = .next it false) (hx : opv K it = .c (.one (.ptr r 0))) {b since : Nat} {seen : List Nat} {at_ : Nat} {ku vu : U} {l : List (Nat × (El ku × El vu))} {clock : Nat}
    (hr : lookB B r = some (.obj (.iterG b since seen at_))) (hc : lookB B c = some (.obj (.mapG b ku vu l clock))) (hold : ∀ p ∈ l, p.1 < since) (hsc : since ≤ at_) : OpS P ids o K B (nextS r b since seen ku vu l clock c) := by
  rintro N C a w hs hlt Kn Q hK
  have hs0 := hs
  obtain ⟨hn, hd, ρ, F, hM, hS⟩ := hs
  obtain ⟨hb, hF, ents, h3, h4, h5, h6⟩ : mapGR b ku vu l clock _ (F c) w (ρ c) := hM.holds c _ hc
  obtain ⟨hF2, h7⟩ : iterGR b since seen at_ (Imm C B F w) (F r) w (ρ r) := hM.holds r _ hr
  have e1 : a.eval it = .pointer (some ⟨(ρ r).blk, 0, none⟩) := hS.ev hx
  have hold' : ∀ x ∈ (List.toArray ents).toList, x.born < since := fun x hx => by
    obtain ⟨p, hp, h, _⟩ := mapG_ent (b := b) h4 h5 (e := x) (by simpa using hx)
    rw [← h]; exact hold p hp
  rw [hb] at h3
  rcases run_next_at (P := P) w o.type (ρ r).blk b since at_ (List.toArray seen) (List.toArray ents) clock h7 h3 hold' hsc with ⟨hz, hrun⟩ | ⟨e, he, w1, hw1, hrun⟩
  · unfold Oper.wp
    have hx : (execOp a.eval o).run P w = .ok (.value (.tuple #[.bool false])) w := by simp [execOp, ho, e1, hrun, Result.andThen]
    rw [hx, Oper.upon_value]
    refine hK (.tup [.one (.d (.lit false))]) e0 _ _ (.inr ⟨fun p hp => ?_, rfl, rfl⟩) ⟨put_size.trans hn, put_defers.trans hd, ρ, F, hM, hS.putO (fun e he => by rw [hn]; exact hlt e he) ⟨[.bool false], rfl, _, _, rfl, rfl, rfl⟩⟩
    obtain ⟨e, he, h1, _⟩ := mapG_ent' h4 h5 hp
    rw [← h1]
    have hempty : leftOf (List.toArray ents) (List.toArray seen) = #[] := Array.eq_empty_of_size_eq_zero hz
    unfold leftOf at hempty
    rw [Array.filter_eq_empty_iff] at hempty
    have := hempty e (by simpa using he)
    simpa using this
  · obtain ⟨hme, hmn⟩ := mem_left he
    have hme : e ∈ ents := by simpa using hme
    have hmn : e.born ∉ seen := by
      intro hh
      have : (List.toArray seen).contains e.born = true := by simpa using hh
      rw [this] at hmn; cases hmn
    obtain ⟨p, hp, q1, q2, q3⟩ := mapG_ent (b := b) h4 h5 hme
    unfold Oper.wp
    have hx : (execOp a.eval o).run P w = .ok (.value (.tuple #[.bool true, e.key, e.val])) (setBlock w1 (ρ r).blk (.mapIter (some b) since ((List.toArray seen).push e.born) clock)) := by simp [execOp, ho, e1, hrun, Result.andThen]
    rw [hx, Oper.upon_value]
    have hlt2 : (ρ r).blk < w.heap.size := lt_of_heap h7
    have hw1h : w1.heap = w.heap ∧ w1.os = w.os ∧ w1.tape = w.tape ∧ w1.output = w.output := by
      rcases hw1 with rfl | rfl <;> exact ⟨rfl, rfl, rfl, rfl⟩
    have hfr : Fr (F r) w (setBlock w1 (ρ r).blk (.mapIter (some b) since ((List.toArray seen).push e.born) clock)) := by
      refine ⟨hw1h.2.1, hw1h.2.2.1, hw1h.2.2.2, by simp [setBlock, hw1h.1], fun k hk hnk => ?_⟩
      have hne : k ≠ (ρ r).blk := fun h => hnk ((hF2 k).2 h)
      simp [setBlock, hw1h.1, Array.getElem?_setIfInBounds_ne (Ne.symm hne)]
    obtain ⟨hM', hE⟩ := hM.turn (w' := setBlock w1 (ρ r).blk (.mapIter (some b) since ((List.toArray seen).push e.born) clock)) (ch := .obj (.iterG b since (seen ++ [p.1]) clock)) hr hfr fun I hI => ⟨hF2, by
      simp [setBlock, hw1h.1, hlt2, q1]⟩
    refine hK (.tup [.one (.d (.lit true)), keySC ku p.2.1, dataC vu p.2.2]) ⟨[c, r], [], [(r, some (.obj (.iterG b since (seen ++ [p.1]) clock)))]⟩ _ _ (.inl ⟨p, hp, by rw [q1]; exact hmn, rfl, rfl⟩)
      ⟨put_size.trans hn, put_defers.trans hd, ρ, F, hM', (hS.mono hE fun _ _ _ => rfl).putO (fun e he => by rw [hn]; exact hlt e he) ⟨[.bool true, e.key, e.val], rfl, _, _, rfl, rfl, _, _, rfl, ?_, _, _, rfl, dataC_den (q3.mono hE), rfl⟩⟩
    rw [q2]
    exact keySC_den ku _
theorem opOK_entry {o : Oper} {it : Operand} {c r : Nat} (ho : o.op = .entry it) (hx : opv K it = .c (.one (.ptr r 0))) {b since : Nat} {seen : List Nat} {ku vu : U} {l : List (Nat × (El ku × El vu))} {clock : Nat} {p : Nat × (El ku × El vu)}
    (hr : lookB B r = some (.obj (.iterG b since (seen ++ [p.1]) clock))) (hc : lookB B c = some (.obj (.mapG b ku vu l clock))) (hp : p ∈ l) (N : Nat) : OpOK P N ids o K B (.tup [keySC ku p.2.1, dataC vu p.2.2]) ⟨[c, r], [], []⟩ := by
  have hm : it ∈ o.op.operands := by rw [ho]; simp [Op.operands]
  refine OpOK.val fun K' B' g1 g2 C ρ F a w hM hS => ?_
  have hc' := (g2 c (by simp)).trans hc
  have hr' := (g2 r (by simp)).trans hr
  obtain ⟨hb, hF, ents, h3, h4, h5, h6⟩ : mapGR b ku vu l clock _ (F c) w (ρ c) := hM.holds c _ hc'
  obtain ⟨hF2, h7⟩ : iterGR b since (seen ++ [p.1]) clock (Imm C B' F w) (F r) w (ρ r) := hM.holds r _ hr'
  have e1 : a.eval it = .pointer (some ⟨(ρ r).blk, 0, none⟩) := hS.ev ((g1 it hm).trans hx)
  obtain ⟨e, he, q1, q2, q3⟩ := mapG_ent' h4 h5 hp
  rw [hb] at h3
  have hnd : ((List.toArray ents).toList.map (·.born)).Nodup := by
    show (ents.map (·.born)).Nodup
    exact h6.1.imp fun h => by omega
  have h7' : w.heap[(ρ r).blk]? = some (.mapIter (some b) since ((List.toArray seen).push e.born) clock) := by rw [h7, q1]; simp
  have hrun := run_entry_at (P := P) w (ρ r).blk b since (List.toArray seen) (List.toArray ents) clock e h7' h3 (by simpa using he) hnd
  refine ⟨_, by simp [execOp, ho, e1, hrun, Result.andThen], [e.key, e.val], rfl, _, _, rfl, ?_, _, _, rfl, dataC_den q3, rfl⟩
  rw [q2]
  exact keySC_den ku _
theorem OpS.of {o : Oper} {v : SV} {rc : List Nat} {wc : List (Nat × Option Ch)} (h : ∀ N, OpOK P N ids o K B v ⟨rc, [], wc⟩) : OpS P ids o K B (fun v' e' => v' = v ∧ e' = ⟨rc, [], wc⟩) := fun N C a w hs hlt Kn Q hK =>
  h N K B (fun _ _ => rfl) (fun _ _ => rfl) (fun c hc => by cases hc) C a w hs hlt Kn Q fun a' w' hs' => hK v ⟨rc, [], wc⟩ a' w' ⟨rfl, rfl⟩ hs'
/-! ### delete -/
def gdel {ku vu : U} (l : List (Nat × (El ku × El vu))) (k : El ku) : List (Nat × (El ku × El vu)) := l.eraseP fun p => eqKey ku k p.2.1
theorem findG {I : Nat → Prop} {w : World} {ku vu : U} {d : TypeDesc} (hd : keyD ku d = true) (k : El ku) : ∀ (l : List (Nat × (El ku × El vu))) (es : List MapEntry) (i : Nat), MapU I w ku vu (l.map (·.2)) es →
    (Instr.findNow d (keyV ku k) es i = some none ∧ gdel l k = l) ∨ ∃ (j : Nat) (v : Value), Instr.findNow d (keyV ku k) es i = some (some (i + j, v)) ∧ gdel l k = l.eraseIdx j ∧ j < es.length
  | [], _, i, h => by
    rw [show _ = [] from h]
    exact .inl ⟨rfl, rfl⟩
  | p :: l, _, i, ⟨e, r, h, h1, h2, h3⟩ => by
    subst h
    obtain ⟨b, hb, hiff⟩ := MapKept.sameNow_of_keys (keyD_isKey hd k) (keyD_isKey hd p.2.1)
    rw [← h1] at hb
    cases hk : eqKey ku k p.2.1 with
    | true =>
      have hbt : b = true := hiff.2 ((keyV_inj hd k p.2.1).2 hk)
      subst hbt
      exact .inr ⟨0, e.val, by simp [Instr.findNow, hb], by simp [gdel, hk], by simp⟩
    | false =>
      have hbf : b = false := by
        cases b with
        | false => rfl
        | true => have := (keyV_inj hd k p.2.1).1 (hiff.1 rfl); rw [hk] at this; cases this
      subst hbf
      rcases findG hd k l r (i + 1) h3 with ⟨a1, a2⟩ | ⟨j, v, a1, a2, a3⟩
      · refine .inl ⟨by simp [Instr.findNow, hb, a1], ?_⟩
        unfold gdel at a2 ⊢
        rw [List.eraseP_cons_of_neg (by simp [hk]), a2]
      · refine .inr ⟨j + 1, v, by simp [Instr.findNow, hb, a1]; omega, ?_, by simpa using a3⟩
        unfold gdel at a2 ⊢
        rw [List.eraseP_cons_of_neg (by simp [hk]), a2, List.eraseIdx_cons_succ]
theorem gdelete_run {I : Nat → Prop} {w : World} {ku vu : U} {t kt et ty : TypeId} {d : TypeDesc} (ht : P.underlying t = some (.map kt et)) (hk : P.underlying kt = some d) (hd : keyD ku d = true) {b : Nat} {ents : List MapEntry} {clock : Nat} (hb : w.heap[b]? = some (.map (List.toArray ents) clock))
    {l : List (Nat × (El ku × El vu))} (hm : MapU I w ku vu (l.map (·.2)) ents) (hbo : ents.map (·.born) = l.map (·.1)) (hB : Births ents clock) (k : El ku) (kt' : TypeId) :
    ∃ es', (Builtin.delete_ #[t, kt'] ty #[.map (some b), keyV ku k]).run P w = .ok (.tuple #[]) { w with heap := w.heap.setIfInBounds b (.map (List.toArray es') clock) } ∧ MapU I w ku vu ((gdel l k).map (·.2)) es' ∧ es'.map (·.born) = (gdel l k).map (·.1) ∧ Births es' clock := by
  have hc := fun e => MapKept.run_checkKey (P := P) (w := w) hk (keyD_isKey hd k) e 9999
  have hst := fun o => MapKept.run_setObj_map (P := P) o hb
  rcases findG (I := I) (w := w) hd k l ents 0 hm with ⟨a1, a3⟩ | ⟨j, v, a1, a3, a4⟩
  · have hf := MapKept.run_findKey (P := P) (w := w) hk a1
    refine ⟨ents, ?_, by rw [a3]; exact hm, by rw [a3]; exact hbo, hB⟩
    simp [Builtin.delete_, run_underlying ht, MapKept.run_getObj_map hb, hc, hf, hst, Result.andThen]
  · have hf := MapKept.run_findKey (P := P) (w := w) hk a1
    refine ⟨ents.eraseIdx j, ?_, ?_, ?_, births_erase hB j⟩
    · have her : (List.toArray ents).eraseIdxIfInBounds j = List.toArray (ents.eraseIdx j) := by
        apply Array.ext'
        unfold Array.eraseIdxIfInBounds
        rw [dif_pos (by simpa using a4)]
        simp
      simp [Builtin.delete_, run_underlying ht, MapKept.run_getObj_map hb, hc, hf, hst, Result.andThen, her]
    · rw [a3, map_eraseIdx]
      exact mapU_erase hm j
    · rw [a3, map_eraseIdx, map_eraseIdx, hbo]
theorem opOK_gdelete {o : Oper} {T T' kt et : TypeId} {x i : Operand} {c : Nat} (ho : o.op = .call { callee := .builtin .delete, args := #[x, i], argTypes := #[T, T'] }) (hT : P.underlying T = some (.map kt et)) {d : TypeDesc} (hkt : P.underlying kt = some d) {ku vu : U} (hd : keyD ku d = true)
    (hx : opv K x = .c (.one (.mp c))) {key : El ku} (hk : keyS ku (opv K i) = some key) {b : Nat} {l : List (Nat × (El ku × El vu))} {clock : Nat} (hc : lookB B c = some (.obj (.mapG b ku vu l clock))) (N : Nat) :
    OpOK P N ids o K B (.tup []) ⟨[c], [], [(c, some (.obj (.mapG b ku vu (gdel l key) clock)))]⟩ := by
  have m1 : x ∈ o.op.operands := by rw [ho]; simp [Op.operands, Call.operands]
  have m2 : i ∈ o.op.operands := by rw [ho]; simp [Op.operands, Call.operands]
  refine OpOK.turnT hc fun K' B' g1 C ρ F a w hM hS hl' => ?_
  obtain ⟨hb, hF, ents, h3, h4, h5, h6⟩ : mapGR b ku vu l clock (Imm C B' F w) (F c) w (ρ c) := hM.holds c _ hl'
  have e1 := hS.mp ((g1 x m1).trans hx)
  have e2 : a.eval i = keyV ku key := keyS_den hk (hS.ev (g1 i m2))
  obtain ⟨es', hr, hm', hbo', hB'⟩ := gdelete_run (P := P) (ty := o.type) hT hkt hd h3 h4 h5 h6 key T'
  have hlt := lt_of_heap h3
  refine ⟨{ w with heap := w.heap.setIfInBounds (ρ c).blk (.map (List.toArray es') clock) }, ?_, map_fr ((hF _).2 rfl), fun I hE => ⟨hb, hF, es', by simp [hlt], hm'.mono hE, hbo', hB'⟩⟩
  simp [execOp, ho, resolve, invoke, builtin, e1, e2, hr]
/-! ### is a row of the call's own nil? -/
theorem opS_ownNil {o : Oper} {T T2 e' : TypeId} {x : Operand} {c : Nat} (ho : o.op = .binOp .eql T x (.const (.slice none 0 0)) T2) (hx : opv K x = .c (.one (.own c))) {e : TypeId} {u : U} {xs : List (El u)} (hc : lookB B c = some (.row e u xs)) (hT : P.underlying T = some (.slice e')) :
    OpS P ids o K B (fun v ef => ∃ b : Bool, (b = true → xs = []) ∧ v = .c (.one (.d (.lit b))) ∧ ef = ⟨[c], [], []⟩) := by
  rintro N C a w ⟨hn, hd, ρ, F, hM, hS⟩ hlt Kn Q hK
  obtain ⟨hF, hbk, cs, hown, hrec⟩ := hM.holds c _ hc
  have e1 : a.eval x = (ρ c).hdr := hS.ev hx
  have hrun : (execOp a.eval o).run P w = .ok (.value (.bool (ρ c).A.isNone)) w := by
    simp only [execOp, ho, e1, Pl.hdr]
    have e2 : a.eval (.const (.slice none 0 0)) = .slice none 0 0 := rfl
    have h := Lib.run_eql_slice_nil (P := P) w T e' (ρ c).A (ρ c).n (ρ c).cap 0 0 hT
    simp [e2, h, Result.andThen, eqGuard]
  unfold Oper.wp
  rw [hrun, Oper.upon_value]
  refine hK (.c (.one (.d (.lit (ρ c).A.isNone)))) ⟨[c], [], []⟩ _ _ ⟨_, fun hb => ?_, rfl, rfl⟩ ⟨put_size.trans hn, put_defers.trans hd, ρ, F, hM, hS.putO (fun e he => by rw [hn]; exact hlt e he) rfl⟩
  rcases hown.2 with ⟨_, h⟩ | ⟨g, cap, cur, h, _⟩
  · exact List.eq_nil_of_length_eq_zero h
  · have h1 : (ρ c).A = some ⟨g, 0, none⟩ := by simp only [Pl.hdr] at h; injection h
    rw [h1] at hb
    cases hb
end
end Go.Proofs.YtolaecebfkdbcaaGreat
