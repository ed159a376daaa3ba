/-
  Soundness of the conditions: calls; all operations together.
-/
import Derived.Test.YthghcdddambaeaaSndU
set_option linter.unusedVariables false
set_option linter.unusedSimpArgs false
namespace Go.Proofs.Ythghcdddambaeaa
open Go.RowKit

section
variable {P : Program} {tt : Tr} {N : Nat} {ids : List Nat} {o : Oper} {K : KL} {B : BL} {k : SV → Eff → Prop}
theorem subB_get : ∀ {Bi : BL} {B : BL}, subB B Bi → ∀ {c ch}, lookB Bi c = some ch → lookB B c = some ch
  | [], B, h, c, ch, hc => by cases hc
  | (d, x) :: Bi, B, h, c, ch, hc => by
    rw [lookB_cons] at hc
    split at hc
    · rename_i e
      subst e
      injection hc with hc
      subst hc
      exact h.1
    · exact subB_get h.2 hc
theorem keysB_mem : ∀ {B : BL} {c : Nat}, c ∈ keysB B ↔ ∃ ch, lookB B c = some ch
  | [], c => by simp [keysB, lookB]
  | (d, x) :: B, c => by
    simp only [keysB, List.mem_cons, lookB_cons]
    by_cases e : d = c
    · subst e; simp
    · rw [if_neg e]
      constructor
      · rintro (h | h)
        · exact absurd h.symm e
        · exact keysB_mem.1 h
      · exact fun h => .inr (keysB_mem.2 h)
theorem outOK_get : ∀ {Bi : BL} {nw : List Nat} {Bo : BL}, outOK Bi nw Bo = true → ∀ {c}, c ∈ keysB Bo → c ∈ keysB Bi ∨ c ∈ nw
  | Bi, nw, [], h, c, hc => by simp [keysB] at hc
  | Bi, nw, (d, x) :: Bo, h, c, hc => by
    simp only [outOK, Bool.and_eq_true, Bool.or_eq_true, List.contains_iff_mem] at h
    rcases List.mem_cons.1 hc with rfl | hc
    · exact h.1.1
    · exact outOK_get h.2 hc
theorem applyB_push : ∀ (Bo : BL) (Bi : BL) (nw : List Nat) (B : BL), outOK Bi nw Bo = true → ∀ c, lookB (applyB (effB [] Bo) B) c = (match lookB Bo c with | some ch => some ch | none => lookB B c)
  | [], _, _, B, _, c => by simp [effB, pushB, applyB, lookB]
  | (d, x) :: Bo, Bi, nw, B, h, c => by
    simp only [outOK, Bool.and_eq_true, Bool.not_eq_true'] at h
    show lookB (applyB (effB [] Bo) ((d, x) :: B)) c = _
    rw [applyB_push Bo Bi nw ((d, x) :: B) h.2 c, lookB_cons, lookB_cons]
    by_cases e : d = c
    · subst e
      have hn : lookB Bo d = none := by
        cases hl : lookB Bo d with
        | none => rfl
        | some ch =>
          have := keysB_mem.2 ⟨ch, hl⟩
          have h2 := h.1.2
          rw [← Bool.not_eq_true, List.contains_iff_mem] at h2
          exact absurd this h2
      rw [hn, if_pos rfl, if_pos rfl]
    · rw [if_neg e, if_neg e]
theorem applyB_all : ∀ (Bi : BL) (Bi' : BL) (nw : List Nat) (Bo B : BL), outOK Bi' nw Bo = true → ∀ c, lookB (applyB (effB Bi Bo) B) c = (match lookB Bo c with | some ch => some ch | none => if c ∈ keysB Bi then none else lookB B c)
  | [], Bi', nw, Bo, B, h, c => by
    rw [applyB_push Bo Bi' nw B h c]
    simp [keysB]
  | (d, x) :: Bi, Bi', nw, Bo, B, h, c => by
    simp only [effB, applyB]
    rw [applyB_all Bi Bi' nw Bo (dropB B d) h c, lookB_dropB]
    cases lookB Bo c with
    | some ch => rfl
    | none =>
      simp only [keysB, List.mem_cons]
      by_cases e : d = c
      · subst e; simp
      · by_cases e2 : c ∈ keysB Bi
        · simp [e2]
        · simp [e, e2, Ne.symm e]
theorem allFresh_get : ∀ {nw : List Nat}, allFresh ids K B nw = true → ∀ c, c ∈ nw → freshB ids K B c = true
  | [], _, c, hc => by cases hc
  | d :: nw, h, c, hc => by
    simp only [allFresh, Bool.and_eq_true] at h
    rcases List.mem_cons.1 hc with rfl | hc
    · exact h.1.1
    · exact allFresh_get h.2 c hc
theorem exec_call {ev : Operand → Value} {f : FuncId} {c : Call} {xs : List Operand} {w : World} (hf : callable P f = true) (ho : o.op = .call c) (h1 : c.callee = .value (.func f)) (h2 : c.args.toList = xs) (hev : ev (.func f) = .func (.func f) #[] #[]) : (execOp ev o).run P w = .ok (.enter f (xs.map ev).toArray) w := by
  have hargs : c.args = xs.toArray := by rw [← h2]
  obtain ⟨cal, args, ts⟩ := c
  simp only at h1 hargs
  subst h1 hargs
  unfold callable at hf
  split at hf
  · rename_i fn hfn
    simp only [Bool.not_eq_true', Bool.or_eq_false_iff, beq_eq_false_iff_ne] at hf
    have h2 : ¬ fn.body = none := fun e => by rw [e] at hf; simp at hf
    simp [execOp, ho, resolve, invoke, hev, Deferred.ofValue, callFunc, go_sem, hfn]
    rw [if_neg hf.1, if_neg h2]
  · cases hf
theorem args_den {xs : List Operand} (mem : ∀ z ∈ xs, z ∈ o.op.operands) {K' : KL} {ρ : Nat → Pl} {I : Nat → Prop} {a : Act} {w : World} (g1 : ∀ x, x ∈ o.op.operands → opv K' x = opv K x) (hS : Slots K' ρ I a w) (i : Nat) (v : SV) (x : Value) (hv : (xs.map (opv K))[i]? = some v) (hx : (xs.map a.eval)[i]? = some x) : DenV ρ I w v x := by
  rw [List.getElem?_map] at hv hx
  cases hi : xs[i]? with
  | none => rw [hi] at hv; cases hv
  | some z =>
    rw [hi] at hv hx
    simp only [Option.map_some, Option.some.injEq] at hv hx
    subst hv hx
    rw [← g1 z (mem z (List.mem_of_getElem? hi))]
    exact hS.get z
theorem snd_call_gen {f : FuncId} {args : List SV} {xs : List Operand} (mem : ∀ z ∈ xs, z ∈ o.op.operands)
    (hex : ∀ (K' : KL) (ρ : Nat → Pl) (I : Nat → Prop) (a : Act) (w : World), (∀ x, x ∈ o.op.operands → opv K' x = opv K x) → Slots K' ρ I a w → ∃ vals : List Value, (callable P f = true → (execOp a.eval o).run P w = .ok (.enter f vals.toArray) w) ∧ vals.length = args.length ∧ ∀ (i : Nat) (v : SV) (x : Value), args[i]? = some v → vals[i]? = some x → DenV ρ I w v x)
    (h : vcCall P f args ids K B k) : Snd P N ids o K B k := by
  obtain ⟨Bi, nw, res, Bo, ⟨hcall, hfn⟩, hsub, hok, h⟩ := h
  rw [forceV_eq] at h
  simp only [Bool.and_eq_true] at hok
  have hout := hok.2
  refine ⟨_, _, h, ?_, allFresh_get hok.1⟩
  rintro K' B' g1 g2 g3 C a w ⟨hn, hd, ρ, F, hM, hS⟩ hlt Kn Q hK
  have hBi : ∀ {c ch}, lookB Bi c = some ch → lookB B' c = some ch := fun {c ch} hc => (g2 c (keysB_mem.2 ⟨ch, hc⟩)).trans (subB_get hsub hc)
  have hfresh : ∀ c ∈ nw, (∀ s, (look K' s).has c = false) ∧ lookB B' c = none ∧ (∀ d ch, lookB B' d = some ch → ch.has c = false) ∧ c ∉ ids := fun c hc => fresh_of (g3 c hc)
  obtain ⟨vals, hrun, hvl, hvd⟩ := hex K' ρ _ a w g1 hS
  have hc := hfn ρ F (Imm C B' F w) w vals (fun b hb => hb.1) (fun c ch hc => hM.holds c ch (hBi hc)) (fun c ch hc b hb => ⟨(hM.own c ch (hBi hc) b hb).1, fun hI => hI.2.2 c ch (hBi hc) hb⟩)
    (fun c c' ch ch' b h1 h2 => hM.disj c c' ch ch' b (hBi h1) (hBi h2)) hvl hvd
  unfold Oper.wp
  rw [hrun hcall, Oper.upon_enter]
  refine hc.mono ?_
  rintro e w' ⟨x, ρ', F', rfl, hfr, hρ, I', he1, he2, hH, hO, hDj, hden⟩
  have hlk : ∀ c, lookB (applyB (effB Bi Bo) B') c = (match lookB Bo c with | some ch => some ch | none => if c ∈ keysB Bi then none else lookB B' c) := applyB_all Bi Bi nw Bo B' hout
  have hpart : ∀ c ch, lookB (applyB (effB Bi Bo) B') c = some ch → lookB Bo c = some ch ∨ (lookB Bo c = none ∧ c ∉ keysB Bi ∧ lookB B' c = some ch) := fun c ch hc => by
    rw [hlk] at hc
    cases hb : lookB Bo c with
    | some ch' => rw [hb] at hc; exact .inl hc
    | none =>
      rw [hb] at hc
      simp only at hc
      split at hc
      · cases hc
      · rename_i hk; exact .inr ⟨rfl, hk, hc⟩
  let F2 : Nat → Nat → Prop := fun c => if c ∈ keysB Bo then F' c else F c
  have hF2 : ∀ c ch, lookB Bo c = some ch → F2 c = F' c := fun c ch hc => if_pos (keysB_mem.2 ⟨ch, hc⟩)
  have hF2' : ∀ c, lookB Bo c = none → F2 c = F c := fun c hc => if_neg (fun hk => by
    obtain ⟨ch, h⟩ := keysB_mem.1 hk
    rw [hc] at h; cases h)
  have hM1 : ∀ c ch, lookB Bo c = some ch → c ∈ keysB Bi ∨ c ∈ nw := fun c ch hc => outOK_get hout (keysB_mem.2 ⟨ch, hc⟩)
  have hnM : ∀ c ch, lookB (applyB (effB Bi Bo) B') c = some ch → (c ∈ keysB Bi ∨ c ∈ nw) → lookB Bo c = some ch := fun c ch hc hM' => by
    rcases hpart c ch hc with h | ⟨h1, h2, h3⟩
    · exact h
    · rcases hM' with h | h
      · exact absurd h h2
      · rw [(hfresh c h).2.1] at h3; cases h3
  have hI2 : Ext I' w' (Imm C (applyB (effB Bi Bo) B') F2 w') w' := fun b hb => by
    obtain ⟨e1, e2⟩ := he2 b hb
    refine ⟨⟨e1, ?_, fun c ch hc hF => ?_⟩, rfl⟩
    · rcases e2 with e2 | ⟨c, ch, e2, e3⟩ | e2
      · exact e2.2.1
      · exact .inr ((hM.own c ch (hBi e2) b e3).2)
      · exact .inr (.inr (Nat.le_trans hM.fr.size e2))
    · rcases hpart c ch hc with h | ⟨h1, h2, h3⟩
      · rw [hF2 c ch h] at hF
        exact (hO c ch h b hF).2.1 hb
      · rw [hF2' c h1] at hF
        rcases e2 with e2 | ⟨d, ch', e2, e3⟩ | e2
        · exact e2.2.2 c ch h3 hF
        · exact hM.disj d c ch' ch b (hBi e2) h3 (fun e => h2 (e ▸ keysB_mem.2 ⟨ch', e2⟩)) e3 hF
        · have := (hM.own c ch h3 b hF).1; omega
  obtain ⟨hM', hE⟩ := hM.step (B' := applyB (effB Bi Bo) B') (ρ' := ρ') (F' := F2) (w' := w') (fun c => c ∈ keysB Bi ∨ c ∈ nw) (fun c => c ∈ nw)
    (hfr.mono fun b _ ⟨c, ch, h1, h2⟩ => ⟨c, ch, hBi h1, .inl (keysB_mem.2 ⟨ch, h1⟩), h2⟩)
    (fun c ch hc hn => by
      rcases hpart c ch hc with h | ⟨_, _, h3⟩
      · exact absurd (hM1 c ch h) hn
      · exact h3)
    hρ
    (fun c hn => by
      cases hb : lookB Bo c with
      | none => exact hF2' c hb
      | some ch => exact absurd (hM1 c ch hb) hn)
    (fun c hc hn => (hfresh c hn).2.2.2 hc) (fun c h => .inr h)
    (fun c ch hc _ d hd hn => by rw [(hfresh d hn).2.2.1 c ch hc] at hd; cases hd)
    (fun c ch hc hM' _ => by
      have hb := hnM c ch hc hM'
      rw [hF2 c ch hb]
      exact Holds.stable hI2 (fun _ _ => rfl) (Nat.le_refl _) ch (fun _ _ => rfl) (hH c ch hb))
    (fun c ch hc hM' b hb => by
      have hbo := hnM c ch hc hM'
      rw [hF2 c ch hbo] at hb
      obtain ⟨e1, _, e3⟩ := hO c ch hbo b hb
      refine ⟨e1, e3.imp (fun ⟨c0, ch0, h1, h2⟩ => ⟨c0, ch0, hBi h1, .inl (keysB_mem.2 ⟨ch0, h1⟩), h2⟩) id⟩)
    (fun c c' ch ch' b hc hc' hM1 hM2 hne hb hb' => by
      have h1 := hnM c ch hc hM1
      have h2 := hnM c' ch' hc' hM2
      rw [hF2 c ch h1] at hb
      rw [hF2 c' ch' h2] at hb'
      exact hDj c c' ch ch' b h1 h2 hne hb hb')
  refine hK _ _ ⟨put_size.trans hn, put_defers.trans hd, ρ', F2, hM', (hS.mono hE fun s d hd => hρ d fun hn => by rw [(hfresh d hn).1 s] at hd; cases hd).putO (fun e he => by rw [hn]; exact hlt e he) (DenV.mono hI2 _ _ (fun _ _ => rfl) hden)⟩
theorem snd_call {f : FuncId} {c : Call} {xs : List Operand} (ho : o.op = .call c) (h1 : c.callee = .value (.func f)) (h2 : c.args.toList = xs) (h : vcCall P f (xs.map (opv K)) ids K B k) : Snd P N ids o K B k := by
  have mem : ∀ z ∈ xs, z ∈ o.op.operands := fun z hz => by
    rw [ho]
    simp only [Op.operands, Call.operands, Array.mem_append]
    exact .inr (Array.mem_toList_iff.1 (by rw [h2]; exact hz))
  exact snd_call_gen mem (fun K' ρ I a w g1 hS => ⟨xs.map a.eval, fun hcall => exec_call hcall ho h1 h2 rfl, by simp, args_den mem g1 hS⟩) h
theorem capOf_den {ρ : Nat → Pl} {I : Nat → Prop} {w : World} : ∀ (vs : List SV) (l : List Cap) (us : List Value), capOf vs = some l → us.length = vs.length → (∀ (i : Nat) (v : SV) (x : Value), vs[i]? = some v → us[i]? = some x → DenV ρ I w v x) → DenCaps ρ I w l us
  | [], l, us, h, hl, _ => by
    simp only [capOf, Option.some.injEq] at h
    subst h
    exact List.eq_nil_of_length_eq_zero hl
  | v :: vs, l, [], h, hl, _ => by simp at hl
  | v :: vs, l, u :: us, h, hl, hd => by
    have ih := fun r hr => capOf_den vs r us hr (by simpa using hl) (fun i v x hv hx => hd (i + 1) v x (by simpa using hv) (by simpa using hx))
    have h0 := hd 0 v u rfl rfl
    unfold capOf at h
    split at h
    · rename_i e; simp at e
    · rename_i c o vs' e
      injection e with e1 e2
      subst e1 e2
      split at h
      · rename_i r hr
        injection h with h
        subst h
        exact ⟨u, us, rfl, h0, ih r hr⟩
      · cases h
    · rename_i x vs' e
      injection e with e1 e2
      subst e1 e2
      split at h
      · rename_i r hr
        injection h with h
        subst h
        exact ⟨u, us, rfl, h0, ih r hr⟩
      · cases h
    · cases h
theorem snd_func {f : FuncId} {fs cs : Array Operand} (ho : o.op = .makeFunc (.func f) fs cs) (h : match fs.toList, capOf (cs.toList.map (opv K)) with
    | [], some l => k (.c (.one (.clo f l))) e0
    | _, _ => False) : Snd P N ids o K B k := by
  split at h
  · rename_i l hfs hl
    have mem : ∀ z ∈ cs.toList, z ∈ o.op.operands := fun z hz => by
      rw [ho]
      simp only [Op.operands, Array.mem_append]
      exact .inr (Array.mem_toList_iff.1 hz)
    refine Snd.of h <| OpOK.val fun K' B' g1 g2 C ρ F a w hM hS => ?_
    have hfs' : fs = #[] := Array.toList_eq_nil_iff.1 hfs
    refine ⟨.func (.func f) #[] (List.toArray (cs.toList.map a.eval)), (by
      have e : cs.map a.eval = List.toArray (cs.toList.map a.eval) := Array.toList_inj.1 (by simp)
      simp [execOp, ho, Instr.makeFunc, hfs', e]), _, rfl, ?_⟩
    exact capOf_den _ l _ hl (by simp) (args_den mem g1 hS)
  · exact h.elim
theorem exec_callv {ev : Operand → Value} {f : FuncId} {c : Call} {x : Operand} {xs : List Operand} {cs : List Value} {w : World} (hf : callable P f = true) (ho : o.op = .call c) (h1 : c.callee = .value x) (h2 : c.args.toList = xs) (hev : ev x = .func (.func f) #[] (List.toArray cs)) : (execOp ev o).run P w = .ok (.enter f (xs.map ev ++ cs).toArray) w := by
  have hargs : c.args = xs.toArray := by rw [← h2]
  obtain ⟨cal, args, ts⟩ := c
  simp only at h1 hargs
  subst h1 hargs
  unfold callable at hf
  split at hf
  · rename_i fn hfn
    simp only [Bool.not_eq_true', Bool.or_eq_false_iff, beq_eq_false_iff_ne] at hf
    have h2 : ¬ fn.body = none := fun e => by rw [e] at hf; simp at hf
    simp [execOp, ho, resolve, invoke, hev, Deferred.ofValue, callFunc, go_sem, hfn]
    rw [if_neg hf.1, if_neg h2]
  · cases hf
theorem DenCaps.vals {ρ : Nat → Pl} {I : Nat → Prop} {w : World} : ∀ (l : List Cap) (vs : List Value), DenCaps ρ I w l vs → vs.length = (capV l).length ∧ ∀ (i : Nat) (v : SV) (x : Value), (capV l)[i]? = some v → vs[i]? = some x → DenV ρ I w v x
  | [], vs, h => by rw [show vs = [] from h]; exact ⟨rfl, fun i v x hv => by simp [capV] at hv⟩
  | .p c o :: l, _, ⟨v, r, e, h1, h2⟩ => by
    subst e
    obtain ⟨g1, g2⟩ := DenCaps.vals l r h2
    refine ⟨by simp [capV, g1], fun i u x hu hx => ?_⟩
    match i with
    | 0 =>
      simp only [capV, List.getElem?_cons_zero, Option.some.injEq] at hu hx
      subst hu hx
      exact h1
    | i + 1 => exact g2 i u x (by simpa [capV] using hu) (by simpa using hx)
  | .d y :: l, _, ⟨v, r, e, h1, h2⟩ => by
    subst e
    obtain ⟨g1, g2⟩ := DenCaps.vals l r h2
    refine ⟨by simp [capV, g1], fun i u x hu hx => ?_⟩
    match i with
    | 0 =>
      simp only [capV, List.getElem?_cons_zero, Option.some.injEq] at hu hx
      subst hu hx
      exact h1
    | i + 1 => exact g2 i u x (by simpa [capV] using hu) (by simpa using hx)
theorem snd_callv {f : FuncId} {c : Call} {t : Nat} {l : List Cap} {xs : List Operand} (ho : o.op = .call c) (h1 : c.callee = .value (.tmp t)) (h2 : c.args.toList = xs) (hl : look K t = .c (.one (.clo f l))) (h : vcCall P f (xs.map (opv K) ++ capV l) ids K B k) : Snd P N ids o K B k := by
  have mem : ∀ z ∈ xs, z ∈ o.op.operands := fun z hz => by
    rw [ho]
    simp only [Op.operands, Call.operands, Array.mem_append]
    exact .inr (Array.mem_toList_iff.1 (by rw [h2]; exact hz))
  have mt : Operand.tmp t ∈ o.op.operands := by
    rw [ho]
    simp only [Op.operands, Call.operands, Array.mem_append, h1]
    exact .inl (by simp)
  refine snd_call_gen mem (fun K' ρ I a w g1 hS => ?_) h
  have hv := hS (t)
  have hk : look K' t = look K t := g1 (.tmp t) mt
  rw [hk, hl] at hv
  obtain ⟨vs, e, hc⟩ := hv
  obtain ⟨q1, q2⟩ := DenCaps.vals l vs hc
  refine ⟨xs.map a.eval ++ vs, fun hcall => exec_callv hcall ho h1 h2 e, by simp [q1], fun i v x hv hx => ?_⟩
  by_cases hi : i < xs.length
  · rw [List.getElem?_append_left (by simpa using hi)] at hv hx
    exact args_den mem g1 hS i v x hv hx
  · rw [List.getElem?_append_right (by simp; omega)] at hv hx
    simp only [List.length_map] at hv hx
    exact q2 _ v x hv hx
theorem snd_len (hP : TblOK P tt) {T : TypeId} {x : Operand} {c : Call} (ho : o.op = .call c) (hc1 : c.callee = .builtin .len) (hc2 : c.args.toList = [x]) (hc3 : c.argTypes.toList = [T]) (h : match lenV tt T B (opv K x) with
    | some (n, rc) => k (.c (.one (.d (.int .i64 (n : Int))))) ⟨rc, [], []⟩
    | none => False) : Snd P N ids o K B k := by
  have hargs : c.args = #[x] := Array.toList_inj.1 hc2
  have hts : c.argTypes = #[T] := Array.toList_inj.1 hc3
  obtain ⟨cal, args, ts⟩ := c
  simp only at hc1 hargs hts
  subst hc1 hargs hts
  have m1 : x ∈ o.op.operands := by rw [ho]; simp [Op.operands, Call.operands]
  have run : ∀ {ev : Operand → Value} {w : World} {A : Option Addr} {n cap : Nat} {e : Nat}, ev x = .slice A n cap → P.underlying T = some (.slice e) → (execOp ev o).run P w = .ok (.value (.int .i64 (n : Int))) w := fun {ev w A n cap e} h1 ht => by
    simp [execOp, ho, h1, resolve, invoke, builtin, Builtin.len_, run_underlying ht, goInt]
  split at h
  · rename_i n rc hn
    refine Snd.of h ?_
    unfold lenV at hn
    split at hn
    · rename_i s hx
      split at hn
      · rename_i hT
        injection hn with hn
        injection hn with e1 e2
        subst e1 e2
        refine OpOK.one hx m1 fun K' ρ I a w hS e => ⟨_, ?_, rfl⟩
        simp [execOp, ho, hS.str e, resolve, invoke, builtin, Builtin.len_, run_underlying (isStr_ok hP hT), goInt, size_mk]
      · cases hn
    · rename_i u xs hx
      split at hn
      · rename_i p he
        obtain ⟨hu, _⟩ := elem_ok hP (e := p.1) (te := p.2) he
        injection hn with hn
        injection hn with e1 e2
        subst e1 e2
        refine OpOK.one hx m1 fun K' ρ I a w hS e => ?_
        obtain ⟨A, cap, e3, _⟩ := hS.lst e
        injection e3 with e3
        exact ⟨_, run e3 hu, rfl⟩
      · cases hn
    · rename_i hx
      split at hn
      · rename_i p he
        obtain ⟨hu, _⟩ := elem_ok hP (e := p.1) (te := p.2) he
        injection hn with hn
        injection hn with e1 e2
        subst e1 e2
        exact OpOK.one hx m1 fun K' ρ I a w hS e => ⟨_, run (hS.nils e) hu, rfl⟩
      · cases hn
    · rename_i cc hx
      split at hn
      · rename_i p he
        obtain ⟨hu, _⟩ := elem_ok hP (e := p.1) (te := p.2) he
        split at hn
        · rename_i e' u xs hl
          injection hn with hn
          injection hn with e1 e2
          subst e1 e2
          refine OpOK.val fun K' B' g1 g2 C ρ F a w hM hS => ?_
          obtain ⟨hF, hblk, cs, hown, _⟩ := hM.holds cc _ ((g2 cc (by simp)).trans hl)
          have hx' := hS.own ((g1 x m1).trans hx)
          obtain ⟨_, A, cap, hv, _⟩ := Sl.of_own hown
          exact ⟨_, run (hx'.trans hv) hu, rfl⟩
        · cases hn
      · cases hn
    · cases hn
  · exact h.elim
theorem snd_min {x y : Operand} {c : Call} {bi : Builtin} (hbi : bi = .min ∨ bi = .max) (ho : o.op = .call c) (hc1 : c.callee = .builtin bi) (hc2 : c.args.toList = [x, y]) (h : match opv K x, opv K y with
    | .c (.one (.d (.int .i64 a))), .c (.one (.d (.int .i64 b))) => k (.c (.one (.d (.int .i64 (if bi = .min then min a b else max a b))))) e0
    | _, _ => False) : Snd P N ids o K B k := by
  have hargs : c.args = #[x, y] := Array.toList_inj.1 hc2
  obtain ⟨cal, args, ts⟩ := c
  simp only at hc1 hargs
  subst hc1 hargs
  have m1 : x ∈ o.op.operands := by rw [ho]; simp [Op.operands, Call.operands]
  have m2 : y ∈ o.op.operands := by rw [ho]; simp [Op.operands, Call.operands]
  split at h
  · rename_i a b hx hy
    refine Snd.of h <| OpOK.two hx hy m1 m2 fun K' ρ I ac w hS e1 e2 => ⟨_, ?_, rfl⟩
    rcases hbi with rfl | rfl
    · have e : (if b < a then b else a) = min a b := by rw [Int.min_def]; split <;> split <;> omega
      simp [execOp, ho, hS.int e1, hS.int e2, resolve, invoke, builtin, run_min_int2, e]
    · have e : (if b > a then b else a) = max a b := by rw [Int.max_def]; split <;> split <;> omega
      simp only [gt_iff_lt] at e
      simp [execOp, ho, hS.int e1, hS.int e2, resolve, invoke, builtin, run_max_int2, e]
  · exact h.elim
theorem TIok.bool {P : Program} {T : Nat} {ti : TI} {i : TypeInfo} {d : TypeDesc} (h : TIok P T ti i d) (hk : ti.kd = .bool) : P.underlying T = some .bool := by
  have := h.kd
  rw [hk] at this
  rw [h.und]
  cases d <;> simp [kdOK] at this ⊢
theorem isBool_ok (hP : TblOK P tt) {T : Nat} (h : isBool tt T = true) : P.underlying T = some .bool := by
  unfold isBool at h
  split at h
  · rename_i ti hti
    split at h
    · rename_i hk
      obtain ⟨_, _, hok⟩ := hP.at_ hti
      exact hok.bool hk
    · cases h
  · cases h
theorem isPtr_ok (hP : TblOK P tt) {T : Nat} (h : isPtr tt T = true) : ∃ e, P.underlying T = some (.pointer e) := by
  unfold isPtr at h
  split at h
  · rename_i ti hti
    split at h
    · rename_i e hk
      obtain ⟨_, _, hok⟩ := hP.at_ hti
      exact ⟨e, hok.ptr hk⟩
    · cases h
  · cases h
theorem snd_any (h : vcAny P ids o K B k) : Snd P N ids o K B k := by
  obtain ⟨v, e, h1, h2, h3⟩ := h
  rw [forceV_eq] at h3
  exact ⟨v, e, h3, h1 N, allFresh_get h2⟩
set_option maxHeartbeats 1000000 in
/-- ALL OPERATIONS. -/
theorem vcOp_sound (hP : TblOK P tt) (h : vcOp P tt ids o K B k) : Snd P N ids o K B k := by
  unfold vcOp at h
  split at h
  · exact snd_move (.inl ‹_›) h
  · exact snd_move (.inr ‹_›) h
  · exact snd_pick ‹_› h
  · rename_i op T x y T2 ho
    have fin : (∃ v, k v e0 ∧ OpOK P N ids o K B v e0) → Snd P N ids o K B k := fun ⟨v, h1, h2⟩ => Snd.of h1 h2
    split at h
    · rename_i hT; exact fin (vcBin_sound ho (.inl (isPtr_ok hP hT)) h)
    · rename_i hT; exact fin (vcBin_sound ho (.inl (isPtr_ok hP hT)) h)
    · split at h
      · exact h.elim
      · exact h.elim
      · rename_i hx
        split at h
        · rename_i hb; exact fin (vcBB_sound ho (isBool_ok hP hb) (.inl hx) h)
        · exact h.elim
      · rename_i hx
        split at h
        · rename_i hb; exact fin (vcBB_sound ho (isBool_ok hP hb) (.inr hx) h)
        · exact h.elim
      · rename_i h1 h2 _ _
        exact fin (vcBin_sound ho (.inr fun c d => ⟨h1 c d, h2 _⟩) h)
    · exact h.elim
  · exact snd_not ‹_› h
  · exact snd_extract ‹_› h
  · exact snd_nilCheck ‹_› h
  · exact snd_field hP ‹_› h
  · exact snd_load hP ‹_› h
  · exact snd_store hP ‹_› h
  · exact snd_alloc hP ‹_› h
  · exact snd_box hP ‹_› h
  · exact snd_build hP ‹_› h
  · rename_i T ps ho
    split at h
    · rename_i hps
      exact snd_slice0 hP ho h hps
    · exact h.elim
  · rename_i T n ps hn ho
    exact snd_sliceN hP ho hn h
  · exact snd_indexAddr hP ‹_› h
  · exact snd_index hP ‹_› h
  · rename_i ho
    split at h
    · rename_i hx
      exact snd_sliceOwn hP ho hx h
    · exact snd_slice hP ho h
  · exact snd_conv hP ‹_› h
  · exact snd_func ‹_› h
  · exact snd_make hP ‹_› h
  · rename_i c ho
    split at h
    · rename_i f h1
      exact snd_call ho h1 rfl h
    · rename_i t h1
      split at h
      · rename_i f l hl
        exact snd_callv ho h1 rfl hl h
      · exact h.elim
    · rename_i x h1 h2
      split at h
      · rename_i T hT
        exact snd_len hP ho h1 h2 hT h
      · exact h.elim
    · rename_i x y h1 h2
      refine snd_min (bi := .min) (.inl rfl) ho h1 h2 ?_
      simp only [if_pos rfl]
      exact h
    · rename_i x y h1 h2
      refine snd_min (bi := .max) (.inr rfl) ho h1 h2 ?_
      simp only [reduceCtorEq, if_false]
      exact h
    · rename_i x y h1 h2
      split at h
      · rename_i T T' hT
        exact snd_copy hP ho h1 h2 hT h
      · exact h.elim
    · rename_i x y h1 h2
      split at h
      · rename_i T T' hT
        split at h
        · rename_i he
          have := Nat.eq_of_beq_eq_true he
          subst this
          exact snd_append hP ho h1 h2 hT h
        · exact h.elim
      · exact h.elim
    · exact snd_any h
  · exact snd_any h
end
end Go.Proofs.Ythghcdddambaeaa
