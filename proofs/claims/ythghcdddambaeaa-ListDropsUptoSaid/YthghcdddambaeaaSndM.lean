/-
  Soundness of the conditions: loads, stores, new blocks.
-/
import Derived.Test.YthghcdddambaeaaSndV
set_option linter.unusedVariables false
set_option linter.unusedSimpArgs false
namespace Go.Proofs.Ythghcdddambaeaa
open Go.RowKit

section
variable {ρ : Nat → Pl} {I : Nat → Prop} {w : World}
theorem DenL.length : ∀ (l : List S1) (vs : List Value), DenL ρ I w l vs → vs.length = l.length
  | [], _, h => by rw [show _ = [] from h]; rfl
  | s :: l, _, ⟨v, r, e, h1, h2⟩ => by rw [e, List.length_cons, List.length_cons, DenL.length l r h2]
theorem DenL.get : ∀ (l : List S1) (vs : List Value), DenL ρ I w l vs → ∀ (i : Nat) (s : S1), l[i]? = some s → ∃ v, vs[i]? = some v ∧ DenS ρ I w s v
  | [], _, h, i, s, hs => by simp at hs
  | t :: l, _, ⟨v, r, e, h1, h2⟩, 0, s, hs => by
    simp only [List.getElem?_cons_zero, Option.some.injEq] at hs
    subst hs e
    exact ⟨v, rfl, h1⟩
  | t :: l, _, ⟨v, r, e, h1, h2⟩, i + 1, s, hs => by
    subst e
    simpa using DenL.get l r h2 i s (by simpa using hs)
theorem DenL.app : ∀ (l m : List S1) (vs us : List Value), DenL ρ I w l vs → DenL ρ I w m us → DenL ρ I w (l ++ m) (vs ++ us)
  | [], m, _, us, h, h' => by rw [show _ = [] from h]; exact h'
  | s :: l, m, _, us, ⟨v, r, e, h1, h2⟩, h' => ⟨v, r ++ us, by rw [e]; rfl, h1, DenL.app l m r us h2 h'⟩
theorem DenL.tk : ∀ (n : Nat) (l : List S1) (vs : List Value), DenL ρ I w l vs → DenL ρ I w (l.take n) (vs.take n)
  | 0, _, _, _ => rfl
  | n + 1, [], _, h => by rw [show _ = [] from h]; rfl
  | n + 1, s :: l, _, ⟨v, r, e, h1, h2⟩ => ⟨v, r.take n, by rw [e]; rfl, h1, DenL.tk n l r h2⟩
theorem DenL.dp : ∀ (n : Nat) (l : List S1) (vs : List Value), DenL ρ I w l vs → DenL ρ I w (l.drop n) (vs.drop n)
  | 0, _, _, h => h
  | n + 1, [], _, h => by rw [show _ = [] from h]; rfl
  | n + 1, s :: l, _, ⟨v, r, e, h1, h2⟩ => by rw [e]; exact DenL.dp n l r h2
theorem DenL.splice {l cs : List S1} {vs us : List Value} {o : Nat} (h : DenL ρ I w l vs) (h' : DenL ρ I w cs us) : DenL ρ I w (spl l o cs) (vs.take o ++ us ++ vs.drop (o + us.length)) := by
  unfold spl
  rw [DenL.length cs us h']
  exact DenL.app _ _ _ _ (DenL.app _ _ _ _ (DenL.tk _ _ _ h) h') (DenL.dp _ _ _ h)
theorem ok_one {s : S1} {v : Value} (h : s.ok = true) (hv : DenS ρ I w s v) : v.oneCell' = true := by
  cases s with
  | d x =>
    cases x with
    | lst u xs => obtain ⟨A, cap, e, _⟩ := hv; injection e with e; rw [e]; rfl
    | _ => rw [show v = _ from hv]; rfl
  | ptr c o => rw [show v = _ from hv]; rfl
  | own c => rw [show v = _ from hv]; rfl
  | el u x o => obtain ⟨b, p, e, _⟩ := hv; rw [e]; rfl
  | rp c s i o => rw [show v = _ from hv]; rfl
  | os c s o n => rw [show v = _ from hv]; rfl
  | mp c => rw [show v = _ from hv]; rfl
  | clo f l => obtain ⟨vs, e, _⟩ := hv; rw [e]; rfl
  | nils => rw [show v = _ from hv]; rfl
  | raw u =>
    rw [show v = u from hv]
    cases u <;> first | rfl | (simp [S1.ok] at h)
  | any => simp [S1.ok] at h
theorem ok_list : ∀ {l : List S1} {vs : List Value}, okL l = true → DenL ρ I w l vs → ∀ u ∈ vs, u.oneCell' = true
  | [], _, _, hv, u, hu => by rw [show _ = [] from hv] at hu; cases hu
  | s :: l, _, h, ⟨v, r, e, h1, h2⟩, u, hu => by
    simp only [okL, Bool.and_eq_true] at h
    subst e
    rcases List.mem_cons.1 hu with rfl | hu
    · exact ok_one h.1 h1
    · exact ok_list h.2 h2 u hu
theorem cells_of {sv : SV} {l : List S1} {v : Value} (h : cellsV sv = some l) (hv : DenV ρ I w sv v) : ∃ vs, v.cells = List.toArray vs ∧ DenL ρ I w l vs ∧ ∀ u ∈ vs, u.oneCell' = true := by
  unfold cellsV at h
  split at h
  · split at h
    · rename_i s hs
      injection h with h
      subst h
      have h1 := ok_one hs hv
      refine ⟨[v], ?_, ⟨v, [], rfl, hv, rfl⟩, fun u hu => by simp at hu; rw [hu]; exact h1⟩
      cases v <;> first | rfl | (simp [Value.oneCell'] at h1)
    · cases h
  · split at h
    · rename_i l' hl
      injection h with h
      subst h
      obtain ⟨vs, e, h2⟩ := hv
      exact ⟨vs, by rw [e]; rfl, h2, ok_list hl h2⟩
    · cases h
  · cases h
end

/-! ### one block turned, one block new -/
def upd {α : Type} (f : Nat → α) (c : Nat) (x : α) : Nat → α := fun d => if d = c then x else f d
theorem upd_same {α : Type} (f : Nat → α) (c : Nat) (x : α) : upd f c x c = x := if_pos rfl
theorem upd_other {α : Type} (f : Nat → α) {c d : Nat} (x : α) (h : d ≠ c) : upd f c x d = f d := if_neg h
theorem noK_has {c : Nat} : ∀ {K : KL}, noK c K = true → ∀ s, (look K s).has c = false
  | [], _, s => rfl
  | (t, v) :: K, h, s => by
    simp only [noK, Bool.and_eq_true, Bool.not_eq_true'] at h
    rw [look_cons]
    split
    · exact h.1
    · exact noK_has h.2 s
theorem noB_has {c : Nat} : ∀ {B : BL}, noB c B = true → lookB B c = none ∧ ∀ d ch, lookB B d = some ch → ch.has c = false
  | [], _ => ⟨rfl, fun d ch h => by cases h⟩
  | (t, v) :: B, h => by
    simp only [noB, Bool.and_eq_true, Bool.not_eq_true'] at h
    obtain ⟨h1, h2⟩ := noB_has h.2
    have hne : t ≠ c := fun e => by subst e; simp at h
    refine ⟨by rw [lookB_cons, if_neg hne]; exact h1, fun d ch hd => ?_⟩
    rw [lookB_cons] at hd
    split at hd
    · injection hd with hd; subst hd; exact h.1.2
    · exact h2 d ch hd
theorem fresh_of {ids : List Nat} {K : KL} {B : BL} {c : Nat} (h : freshB ids K B c = true) : (∀ s, (look K s).has c = false) ∧ lookB B c = none ∧ (∀ d ch, lookB B d = some ch → ch.has c = false) ∧ c ∉ ids := by
  simp only [freshB, Bool.and_eq_true, Bool.not_eq_true'] at h
  obtain ⟨h2, h3⟩ := noB_has h.1.2
  exact ⟨noK_has h.1.1, h2, h3, by simpa using h.2⟩
section
variable {P : Program} {tt : Tr} {N : Nat} {ids : List Nat} {o : Oper} {K : KL} {B : BL} {C : Ctx} {ρ : Nat → Pl} {F : Nat → Nat → Prop} {w w' : World}
theorem Mem.make (h : Mem ids C B ρ F w) {c : Nat} {ch : Ch} (hf : freshB ids K B c = true) (hb : Below w.heap.size w w') (pl : Pl) (G : Nat → Prop) (hG : ∀ b, G b → w.heap.size ≤ b ∧ b < w'.heap.size)
    (hH : ∀ I, Ext (Imm C B F w) w I w' → (∀ b, I b → b < w'.heap.size ∧ ¬ G b) → Holds (upd ρ c pl) I G w' pl ch) :
    Mem ids C ((c, ch) :: B) (upd ρ c pl) (upd F c G) w' ∧ Ext (Imm C B F w) w (Imm C ((c, ch) :: B) (upd F c G) w') w' := by
  obtain ⟨f1, f2, f3, f4⟩ := fresh_of hf
  refine h.step (fun d => d = c) (fun d => d = c) (Fr.of_below hb) ?_ (fun d hd => upd_other _ _ hd) (fun d hd => upd_other _ _ hd) (fun d hd e => f4 (e ▸ hd)) (fun _ h => h) ?_ ?_ ?_ ?_
  · intro d ch' hd hne
    rw [lookB_cons, if_neg (fun e => hne e.symm)] at hd
    exact hd
  · rintro d ch' hd _ e he rfl
    rw [f3 d ch' hd] at he
    cases he
  · rintro d ch' hd rfl he
    rw [lookB_cons, if_pos rfl] at hd
    injection hd with hd
    subst hd
    rw [upd_same, upd_same]
    exact hH _ he fun b hb' => ⟨hb'.1, fun hg => hb'.2.2 d ch (by rw [lookB_cons, if_pos rfl]) (by rw [upd_same]; exact hg)⟩
  · rintro d ch' hd rfl b hg
    rw [upd_same] at hg
    exact ⟨(hG b hg).2, .inr (hG b hg).1⟩
  · rintro d d' ch1 ch2 b _ _ rfl rfl hne
    exact absurd rfl hne
theorem Mem.turn (h : Mem ids C B ρ F w) {c : Nat} {ch0 ch : Ch} (hc : lookB B c = some ch0) (hfr : Fr (F c) w w')
    (hH : ∀ I, Ext (Imm C B F w) w I w' → Holds ρ I (F c) w' (ρ c) ch) :
    Mem ids C ((c, ch) :: B) ρ F w' ∧ Ext (Imm C B F w) w (Imm C ((c, ch) :: B) F w') w' := by
  refine h.step (fun d => d = c) (fun _ => False) (hfr.mono fun b _ hb => ⟨c, ch0, hc, rfl, hb⟩) ?_ (fun _ _ => rfl) (fun _ _ => rfl) (fun _ _ h => h) (fun _ h => h.elim) (fun _ _ _ _ _ _ h => h) ?_ ?_ ?_
  · intro d ch' hd hne
    rw [lookB_cons, if_neg (fun e => hne e.symm)] at hd
    exact hd
  · rintro d ch' hd rfl he
    rw [lookB_cons, if_pos rfl] at hd
    injection hd with hd
    subst hd
    exact hH _ he
  · rintro d ch' hd rfl b hb
    exact ⟨Nat.lt_of_lt_of_le (h.own d ch0 hc b hb).1 hfr.size, .inl ⟨d, ch0, hc, rfl, hb⟩⟩
  · rintro d d' ch1 ch2 b _ _ rfl rfl hne
    exact absurd rfl hne
/-- An operation that makes one block. -/
theorem OpOK.make {c : Nat} {ch : Ch} {v : SV} {rc : List Nat} (hv : ∀ d, v.has d = true → d = c)
    (h : ∀ (K' : KL) (B' : BL), (∀ x, x ∈ o.op.operands → opv K' x = opv K x) → (∀ c, c ∈ rc → lookB B' c = lookB B c) → ∀ (C : Ctx) (ρ : Nat → Pl) (F : Nat → Nat → Prop) (a : Act) (w : World), Mem ids C B' ρ F w → Slots K' ρ (Imm C B' F w) a w →
      (∀ s, (look K' s).has c = false) → ∃ x w' pl G, (execOp a.eval o).run P w = .ok (.value x) w' ∧ Below w.heap.size w w' ∧ (∀ b, G b → w.heap.size ≤ b ∧ b < w'.heap.size) ∧
        (∀ I, Ext (Imm C B' F w) w I w' → (∀ b, I b → b < w'.heap.size ∧ ¬ G b) → Holds (upd ρ c pl) I G w' pl ch ∧ DenV (upd ρ c pl) I w' v x)) :
    OpOK P N ids o K B v ⟨rc, [c], [(c, some ch)]⟩ := by
  rintro K' B' h1 h2 h3 C a w ⟨hn, hd, ρ, F, hM, hS⟩ hlt Kn Q hK
  have hf := h3 c (by simp)
  have hfr := fresh_of hf
  obtain ⟨x, w', pl, G, hx, hb, hG, hH⟩ := h K' B' h1 h2 C ρ F a w hM hS hfr.1
  obtain ⟨hM', he⟩ := hM.make hf hb pl G hG fun I e1 e2 => (hH I e1 e2).1
  unfold Oper.wp
  rw [hx, Oper.upon_value]
  refine hK _ _ ⟨put_size.trans hn, put_defers.trans hd, upd ρ c pl, upd F c G, hM', (hS.mono he fun s d hd => upd_other _ _ (fun e => by subst e; rw [hfr.1 s] at hd; cases hd)).putO (fun e he => by rw [hn]; exact hlt e he) ?_⟩
  exact (hH _ he fun b hb' => ⟨hb'.1, fun hg => hb'.2.2 c ch (by rw [lookB_cons, if_pos rfl]) (by rw [upd_same]; exact hg)⟩).2
/-- An operation that turns one block. -/
theorem OpOK.turn {c : Nat} {ch0 ch : Ch} (hc : lookB B c = some ch0)
    (h : ∀ (K' : KL) (B' : BL), (∀ x, x ∈ o.op.operands → opv K' x = opv K x) → ∀ (C : Ctx) (ρ : Nat → Pl) (F : Nat → Nat → Prop) (a : Act) (w : World), Mem ids C B' ρ F w → Slots K' ρ (Imm C B' F w) a w → lookB B' c = some ch0 → ∃ w', (execOp a.eval o).run P w = .ok .skip w' ∧ Fr (F c) w w' ∧
        (∀ I, Ext (Imm C B' F w) w I w' → Holds ρ I (F c) w' (ρ c) ch)) :
    OpOK P N ids o K B .undef ⟨[c], [], [(c, some ch)]⟩ := by
  rintro K' B' h1 h2 - C a w ⟨hn, hd, ρ, F, hM, hS⟩ hlt Kn Q hK
  have hc' : lookB B' c = some ch0 := (h2 c (by simp)).trans hc
  obtain ⟨w', hx, hfr, hH⟩ := h K' B' h1 C ρ F a w hM hS hc'
  obtain ⟨hM', he⟩ := hM.turn hc' hfr hH
  unfold Oper.wp
  rw [hx, Oper.upon_skip]
  exact hK _ _ ⟨put_size.trans hn, put_defers.trans hd, ρ, F, hM', (hS.mono he fun _ _ _ => rfl).putO (fun e he => by rw [hn]; exact hlt e he) rfl⟩

/-! ### loads and stores -/
theorem run_load1 {T : TypeId} {p : Addr} {v : Value} {d : TypeDesc} (hu : P.underlying T = some d) (hd : d.isRow = false) (hc : w.cell? p = some v) : (loadVar T p).run P w = .ok v w := by
  cases d <;> first | (simp [TypeDesc.isRow] at hd; done) | simp [loadVar, isAgg, run_underlying hu, go_sem, hc]
theorem exec_load1 {ev : Operand → Value} {T : TypeId} {x : Operand} {p : Addr} {v : Value} {d : TypeDesc} (ho : o.op = .load T x) (h1 : ev x = .pointer (some p)) (hu : P.underlying T = some d) (hd : d.isRow = false) (hc : w.cell? p = some v) : (execOp ev o).run P w = .ok (.value v) w := by
  unfold execOp
  simp only [ho, h1, Instr.loadAt, Instr.sureAddr, Sem.run_bind, Sem.run_pure, Result.andThen_ok, run_load1 hu hd hc]
theorem exec_loadn {ev : Operand → Value} {T : TypeId} {x : Operand} {b p : Nat} {cs : List Value} {d : TypeDesc} {i : TypeInfo} (ho : o.op = .load T x) (h1 : ev x = .pointer (some ⟨b, p, none⟩)) (hu : P.underlying T = some d) (hd : d.isRow = true) (hi : P.info? T = some i) (hl : i.size = cs.length)
    (hc : ∀ (j : Nat) (u : Value), cs[j]? = some u → w.cell? ⟨b, p + j, none⟩ = some u) : (execOp ev o).run P w = .ok (.value (.agg cs.toArray)) w := by
  unfold execOp
  simp only [ho, h1, Instr.loadAt, Instr.sureAddr, Sem.run_bind, Sem.run_pure, Result.andThen_ok, run_loadVar_mid w b p T cs d hc hu hd (by rw [hi, Option.map_some, hl])]
theorem cell_of {b : Nat} {vs : List Value} {T : Nat} (h : w.heap[b]? = some (.cells (List.toArray vs) T (0, 0))) {j : Nat} {v : Value} (hj : vs[j]? = some v) : w.cell? ⟨b, j, none⟩ = some v := by
  simp [World.cell?, h, hj]
theorem exec_store {ev : Operand → Value} {T : TypeId} {x y : Operand} {b p : Nat} {vs us : List Value} {U : Nat} {i : TypeInfo} (ho : o.op = .store T x y) (h1 : ev x = .pointer (some ⟨b, p, none⟩)) (hy : (ev y).cells = List.toArray us) (hi : P.info? T = some i) (hl : i.size = us.length)
    (hb : w.heap[b]? = some (.cells (List.toArray vs) U (0, 0))) (hfit : p + us.length ≤ vs.length) (hone : ∀ u ∈ us, u.oneCell' = true) :
    (execOp ev o).run P w = .ok .skip (w.setRow b (vs.take p ++ us ++ vs.drop (p + us.length)).toArray) := by
  have hs := run_storeCells_at (P := P) b p U us 0 (List.toArray vs) w hb (by simpa using hfit) hone
  simp only [Nat.add_zero, List.toList_toArray] at hs
  have hz : (ev y).cells.size = i.size := by rw [hy, hl]; simp
  unfold execOp
  simp [ho, h1, Instr.storeAt, Instr.sureAddr, storeVar, sizeOf, typeInfo, hi, hy, hl, hs]
end
end Go.Proofs.Ythghcdddambaeaa
