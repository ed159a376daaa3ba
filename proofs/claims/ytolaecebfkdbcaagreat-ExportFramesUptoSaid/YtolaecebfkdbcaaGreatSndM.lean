/-
  Soundness of the conditions: maps of data.
-/
import Derived.Test.YtolaecebfkdbcaaGreatSndP
set_option linter.unusedVariables false
set_option linter.unusedSimpArgs false
namespace Go.Proofs.YtolaecebfkdbcaaGreat
open Go.RowKit

section
variable {P : Program} {tt : Tr} {N : Nat} {ids : List Nat} {o : Oper} {K : KL} {B : BL} {k : SV → Eff → Prop}
theorem has_mp {c d : Nat} (h : SV.has d (.c (.one (.mp c))) = true) : d = c := (Nat.eq_of_beq_eq_true h).symm
theorem mapTy_ok (hP : TblOK P tt) {T kt et : Nat} (h : mapTy tt T = some (kt, et)) : P.underlying T = some (.map kt et) := by
  unfold mapTy at h
  split at h
  · rename_i ti hti
    split at h
    · rename_i k e hk
      obtain ⟨_, _, hok⟩ := hP.at_ hti
      injection h with h
      injection h with h1 h2
      subst h1 h2
      have := hok.kd
      rw [hk] at this
      rw [hok.und]
      cases hd : ‹TypeDesc› <;> simp [hd, kdOK] at this ⊢
      exact this
    · cases h
  · cases h
theorem keyOK_ok (hP : TblOK P tt) {kt : Nat} {ku : U} (h : keyOK tt kt ku = true) : ∃ d, P.underlying kt = some d ∧ keyD ku d = true := by
  unfold keyOK at h
  split at h
  · rename_i ti hti
    obtain ⟨_, _, hok⟩ := hP.at_ hti
    split at h
    · rename_i k k' hk
      have := eqK_eq h
      subst this
      exact ⟨_, hok.int hk, by simp [keyD]⟩
    · rename_i hk
      exact ⟨_, hok.str hk, rfl⟩
    · cases h
  · cases h
theorem wf_dflt : ∀ u : U, WfU u (dflt u)
  | .int _ => trivial
  | .u8 => trivial
  | .bool => trivial
  | .str => trivial
  | .adr => trivial
  | .hdl => trivial
  | .fn => trivial
  | .sl _ => trivial
  | .pr u v => ⟨wf_dflt u, wf_dflt v⟩
  | .arr n u => ⟨List.length_replicate, fun x hx => by
      have e : x = dflt u := List.eq_of_mem_replicate hx
      rw [e]
      exact wf_dflt u⟩
theorem zD_den {ρ : Nat → Pl} {I : Nat → Prop} {w : World} {s : S1} {x : D} {v : Value} (h : zD s x = true) (hv : DenS ρ I w s v) : Den I w x v := by
  unfold zD at h
  split at h
  · simp only [Bool.and_eq_true, decide_eq_true_eq] at h
    obtain ⟨h1, h2⟩ := h
    have := eqK_eq h1
    subst this h2
    exact hv
  · exact hv
  · exact hv
  · exact hv
  · rename_i b c
    have : b = c := by simpa using h
    subst this
    exact hv
  · rw [show v = _ from hv]
    exact ⟨none, 0, rfl, Nat.le_refl _, Nat.zero_le _, fun h => absurd h (Nat.lt_irrefl 0)⟩
  · cases h
theorem zAll_len : ∀ {l m : List S1}, zAll l m = true → l.length = m.length
  | [], [], _ => rfl
  | s :: l, .d x :: m, h => by
    simp only [zAll, Bool.and_eq_true] at h
    simp [zAll_len h.2]
  | [], _ :: _, h => by simp [zAll] at h
  | _ :: _, [], h => by simp [zAll] at h
  | _ :: _, .ptr _ _ :: _, h => by simp [zAll] at h
  | _ :: _, .own _ :: _, h => by simp [zAll] at h
  | _ :: _, .el _ _ _ :: _, h => by simp [zAll] at h
  | _ :: _, .rp _ _ _ _ :: _, h => by simp [zAll] at h
  | _ :: _, .os _ _ _ _ :: _, h => by simp [zAll] at h
  | _ :: _, .mp _ :: _, h => by simp [zAll] at h
  | _ :: _, .clo _ _ :: _, h => by simp [zAll] at h
  | _ :: _, .nils :: _, h => by simp [zAll] at h
  | _ :: _, .raw _ :: _, h => by simp [zAll] at h
  | _ :: _, .any :: _, h => by simp [zAll] at h
theorem zAll_get : ∀ {l m : List S1}, zAll l m = true → ∀ (i : Nat) (y : S1), m[i]? = some y → ∃ s x, l[i]? = some s ∧ y = .d x ∧ zD s x = true
  | [], [], _, i, y, hy => by simp at hy
  | s :: l, .d x :: m, h, 0, y, hy => by
    simp only [zAll, Bool.and_eq_true] at h
    simp only [List.getElem?_cons_zero, Option.some.injEq] at hy
    exact ⟨s, x, rfl, hy.symm, h.1⟩
  | s :: l, .d x :: m, h, i + 1, y, hy => by
    simp only [zAll, Bool.and_eq_true] at h
    simpa using zAll_get h.2 i y (by simpa using hy)
  | [], _ :: _, h, _, _, _ => by simp [zAll] at h
  | _ :: _, [], h, _, _, hy => by simp at hy
  | _ :: _, .ptr _ _ :: _, h, _, _, _ => by simp [zAll] at h
  | _ :: _, .own _ :: _, h, _, _, _ => by simp [zAll] at h
  | _ :: _, .el _ _ _ :: _, h, _, _, _ => by simp [zAll] at h
  | _ :: _, .rp _ _ _ _ :: _, h, _, _, _ => by simp [zAll] at h
  | _ :: _, .os _ _ _ _ :: _, h, _, _, _ => by simp [zAll] at h
  | _ :: _, .mp _ :: _, h, _, _, _ => by simp [zAll] at h
  | _ :: _, .clo _ _ :: _, h, _, _, _ => by simp [zAll] at h
  | _ :: _, .nils :: _, h, _, _, _ => by simp [zAll] at h
  | _ :: _, .raw _ :: _, h, _, _, _ => by simp [zAll] at h
  | _ :: _, .any :: _, h, _, _, _ => by simp [zAll] at h
theorem elOK_zero (hP : TblOK P tt) {et : Nat} {vu : U} (h : elOK tt et vu = true) {I : Nat → Prop} {w : World} : ∃ z, (zeroValue et).run P w = .ok z w ∧ DenE I w vu (dflt vu) z := by
  unfold elOK at h
  split at h
  · rename_i ti hti
    obtain ⟨i, d, hok⟩ := hP.at_ hti
    simp only [Bool.and_eq_true, beq_iff_eq, Bool.or_eq_true] at h
    obtain ⟨⟨h1, h2⟩, h3⟩ := h
    obtain ⟨z, hz, hzl⟩ := hok.zero
    have hd := (zeroL_den (ρ := fun _ => ⟨0, none, 0, 0⟩) (I := I) (w := w) _ _ hzl).1
    have hl := DenL.length _ _ hd
    have hl2 : ti.zero.length = sz vu := (zAll_len h1).trans (listU_length vu _ _ _)
    have hs : z.cells.size = sz vu := by
      rw [← hl2, ← hl]
      simp
    refine ⟨z, by simp [zeroValue, typeInfo, hok.info, hz], hs, ⟨fun ho => ?_, fun ho => ?_⟩, DenU.mk _ _ _ (wf_dflt vu) fun j hj => ?_⟩
    · refine hok.zone z hz ?_
      rw [hok.row, h2, ho]
      rfl
    · have : 2 ≤ sz vu := by
        rcases h3 with h3 | h3
        · rw [ho] at h3; cases h3
        · exact Nat.le_of_ble_eq_true h3
      cases z with
      | agg cs => exact ⟨cs, rfl⟩
      | _ => simp [Value.cells] at hs; omega
    · have hg := listU_get vu (dflt vu) (sz vu) 0 j hj
      rw [Nat.zero_add] at hg
      obtain ⟨s, x, e1, e2, e3⟩ := zAll_get h1 j _ hg
      injection e2 with e2
      obtain ⟨v, e4, e5⟩ := DenL.get _ _ hd j s e1
      exact ⟨v, e4, by rw [e2]; exact zD_den e3 e5⟩
  · cases h
theorem denE_one {ρ : Nat → Pl} {I : Nat → Prop} {w : World} {u : U} {x : El u} {v : Value} (ho : oneU u = true) (h : DenE I w u x v) : DenS ρ I w (.d (cellU u x 0)) v := by
  obtain ⟨h1, h2, h3⟩ := h
  have hc := h2.1 ho
  have hpos : 0 < sz u := by rw [← h1, hc]; simp
  obtain ⟨v', e1, e2⟩ := DenU.cell u x _ 0 h3 hpos
  rw [hc] at e1
  simp at e1
  subst e1
  exact e2
theorem denE_dat {ρ : Nat → Pl} {I : Nat → Prop} {w : World} {u : U} {x : El u} {v : Value} (ho : oneU u = false) (h : DenE I w u x v) : DenC ρ I w (.agg (listU u x 0 (sz u))) v := by
  obtain ⟨h1, h2, h3⟩ := h
  obtain ⟨cs, e⟩ := h2.2 ho
  subst e
  obtain ⟨vs, g1, g2⟩ := listU_den (ρ := ρ) h3 (sz u) 0 (by omega)
  have hl := DenL.length _ _ g1
  rw [listU_length] at hl
  have e : vs = cs.toList := by
    apply List.ext_getElem?
    intro j
    by_cases hj : j < vs.length
    · obtain ⟨v, hv⟩ : ∃ v, vs[j]? = some v := ⟨_, List.getElem?_eq_getElem hj⟩
      have := g2 j v hv
      rw [hv, ← this]
      simp [Value.cells]
    · rw [List.getElem?_eq_none (by omega), List.getElem?_eq_none (by simp [Value.cells] at h1; simp; omega)]
  subst e
  exact ⟨_, by simp, g1⟩
theorem dataC_den {ρ : Nat → Pl} {I : Nat → Prop} {w : World} {u : U} {x : El u} {v : Value} (h : DenE I w u x v) : DenC ρ I w (dataC u x) v := by
  cases u with
  | pr u v => exact denE_dat rfl h
  | arr n u => exact denE_dat rfl h
  | _ => exact denE_one (ρ := ρ) rfl h
theorem valD_den {ρ : Nat → Pl} {I : Nat → Prop} {w : World} {u : U} {s : SV} {y : El u} {p : Option Prop} (h : valD u s = some (y, p)) (hp : PropO p) {v : Value} (hv : DenV ρ I w s v) : DenE I w u y v := by
  unfold valD at h
  split at h
  · rename_i v' y'
    split at h
    · rename_i heq _ ho
      subst heq
      injection h with h
      injection h with h1 h2
      subst h1 h2
      obtain ⟨vs, e, h1, h2⟩ := hv
      subst e
      exact ⟨by simpa [Value.cells] using h1, ⟨fun e => (by rw [ho] at e; cases e), fun _ => ⟨_, rfl⟩⟩, by simpa [Value.cells, castE] using h2⟩
    · cases h
  · rename_i s'
    split at h
    · rename_i y' p' ho hd
      injection h with h
      injection h with h1 h2
      subst h1 h2
      obtain ⟨vs1, vs2, e1, e2, e3, e4, e5⟩ := dec_all u ρ I w _ _ _ _ hd hp [v] ⟨v, [], rfl, hv, rfl⟩
      rw [show vs2 = [] from e4, List.append_nil] at e1
      subst e1
      have hc : v.cells = #[v] := by
        have := e5 v (by simp)
        cases v <;> first | rfl | (simp [Value.oneCell'] at this)
      refine ⟨by rw [hc, ← e2]; rfl, ⟨fun _ => hc, fun e => (by rw [ho] at e; cases e)⟩, by rw [hc]; exact e3⟩
    · cases h
  · rename_i l
    split at h
    · rename_i y' p' ho hd
      injection h with h
      injection h with h1 h2
      subst h1 h2
      obtain ⟨vs, e, hv⟩ := hv
      subst e
      obtain ⟨vs1, vs2, e1, e2, e3, e4, e5⟩ := dec_all u ρ I w _ _ _ _ hd hp vs hv
      rw [show vs2 = [] from e4, List.append_nil] at e1
      subst e1
      exact ⟨by simpa [Value.cells] using e2, ⟨fun e => (by rw [ho] at e; cases e), fun _ => ⟨_, rfl⟩⟩, by simpa [Value.cells] using e3⟩
    · cases h
  · cases h
theorem keyS_den {ρ : Nat → Pl} {I : Nat → Prop} {w : World} {ku : U} {s : SV} {key : El ku} (h : keyS ku s = some key) {v : Value} (hv : DenV ρ I w s v) : v = keyV ku key := by
  unfold keyS at h
  split at h
  · split at h
    · rename_i e
      have := eqK_eq e
      injection h with h
      subst this h
      exact hv
    · cases h
  · injection h with h
    subst h
    exact hv
  · cases h
theorem Slots.mp {K' : KL} {ρ : Nat → Pl} {I : Nat → Prop} {a : Act} {w : World} {x : Operand} (hS : Slots K' ρ I a w) {c : Nat} (h : opv K' x = .c (.one (.mp c))) : a.eval x = .map (some (ρ c).blk) := hS.ev h
theorem snd_lookup (hP : TblOK P tt) {T : TypeId} {x i : Operand} {ok : Bool} (ho : o.op = .lookup T x i ok) (h : vcLookup tt T (opv K x) (opv K i) ok B k) : Snd P N ids o K B k := by
  have m1 : x ∈ o.op.operands := by rw [ho]; simp [Op.operands]
  have m2 : i ∈ o.op.operands := by rw [ho]; simp [Op.operands]
  unfold vcLookup at h
  split at h
  · rename_i c hx
    split at h
    · rename_i ku vu es hl
      split at h
      · rename_i kt et key hT hk
        have main : ∀ (v : SV), (keyOK tt kt ku && elOK tt et vu) = true → (∀ (ρ : Nat → Pl) (I : Nat → Prop) (w : World) (u : Value), DenE I w vu ((mget es key).getD (dflt vu)) u → DenV ρ I w v (if ok then .tuple #[u, .bool (mget es key).isSome] else u)) → OpOK P N ids o K B v ⟨[c], [], []⟩ := by
          intro v hok hv
          simp only [Bool.and_eq_true] at hok
          obtain ⟨d, hd1, hd2⟩ := keyOK_ok hP hok.1
          refine OpOK.val fun K' B' g1 g2 C ρ F a w hM hS => ?_
          obtain ⟨hF, ents, clock, hb, hm, hB⟩ := hM.holds c _ ((g2 c (by simp)).trans hl)
          obtain ⟨z, hz, hzd⟩ := elOK_zero hP hok.2 (I := Imm C B' F w) (w := w)
          obtain ⟨u, hr, hu⟩ := lookup_run (P := P) (mapTy_ok hP hT) hd1 hd2 hb hm hz hzd key ok
          have e1 := hS.mp ((g1 x m1).trans hx)
          have e2 : a.eval i = keyV ku key := keyS_den hk (hS.ev (g1 i m2))
          exact ⟨_, by simp only [execOp, ho, Sem.run_bind, e1, e2, hr, Result.andThen_ok, Sem.run_pure], hv ρ _ w u hu⟩
        split at h
        · rename_i hok
          rw [forceC_eq] at h
          refine Snd.of h (main _ hok fun ρ I w u hu => ?_)
          exact ⟨[u, .bool (mget es key).isSome], rfl, u, _, rfl, dataC_den hu, _, _, rfl, rfl, rfl⟩
        · rename_i hok
          rw [forceC_eq] at h
          exact Snd.of h (main _ hok fun ρ I w u hu => dataC_den hu)
        · exact h.elim
      · exact h.elim
    · exact h.elim
  · exact h.elim
theorem map_fr {w : World} {b : Nat} {ob : Obj} {S : Nat → Prop} (hS : S b) : Fr S w { w with heap := w.heap.setIfInBounds b ob } :=
  ⟨rfl, rfl, rfl, by simp, fun j _ hn => by simp only []; rw [Array.getElem?_setIfInBounds_ne (fun e => hn (by rw [← e]; exact hS))]⟩
theorem snd_update (hP : TblOK P tt) {T : TypeId} {x i v : Operand} (ho : o.op = .mapUpdate T x i v) (h : vcUpdate tt T (opv K x) (opv K i) (opv K v) B k) : Snd P N ids o K B k := by
  have m1 : x ∈ o.op.operands := by rw [ho]; simp [Op.operands]
  have m2 : i ∈ o.op.operands := by rw [ho]; simp [Op.operands]
  have m3 : v ∈ o.op.operands := by rw [ho]; simp [Op.operands]
  unfold vcUpdate at h
  split at h
  · rename_i c hx
    split at h
    · rename_i ku vu es hl
      split at h
      · rename_i kt et key hT hk
        have main : ∀ y : El vu, keyOK tt kt ku = true → (∀ (ρ : Nat → Pl) (I : Nat → Prop) (w : World) (u : Value), DenV ρ I w (opv K v) u → DenE I w vu y u) → OpOK P N ids o K B .undef ⟨[c], [], [(c, some (.map ku vu (mput es key y)))]⟩ := fun y hok hv => by
          obtain ⟨d, hd1, hd2⟩ := keyOK_ok hP hok
          refine OpOK.turn hl fun K' B' g1 C ρ F a w hM hS hl' => ?_
          obtain ⟨hF, ents, clock, hb, hm, hB⟩ := hM.holds c _ hl'
          have e1 := hS.mp ((g1 x m1).trans hx)
          have e2 : a.eval i = keyV ku key := keyS_den hk (hS.ev (g1 i m2))
          have e3 : DenE _ _ vu y (a.eval v) := hv _ _ _ _ (hS.ev (g1 v m3))
          obtain ⟨es', clock', hr, hm', hB'⟩ := update_run (P := P) (mapTy_ok hP hT) hd1 hd2 hb hm hB key e3
          have hlt := (Array.getElem?_eq_some_iff.1 hb).1
          refine ⟨{ w with heap := w.heap.setIfInBounds (ρ c).blk (.map (List.toArray es') clock') }, by simp only [execOp, ho, Sem.run_bind, e1, e2, hr, Result.andThen_ok, Sem.run_pure], map_fr ((hF _).2 rfl), fun I hE => ⟨hF, es', clock', by simp [hlt], hm'.mono hE, hB'⟩⟩
        split at h
        · rename_i y p hok hv
          exact Snd.of h.2 (main y hok fun ρ I w u hu => valD_den hv h.1 hu)
        · rename_i hok _
          split at h
          · rename_i l hv hone
            obtain ⟨y, ⟨hw, hl'⟩, h⟩ := h
            refine Snd.of h (main y hok fun ρ I w u hu => ?_)
            rw [hv] at hu
            obtain ⟨vs, e, hd⟩ := hu
            subst e hl'
            exact ⟨by simpa [Value.cells, listU_length] using DenL.length _ _ hd, ⟨fun e => (by rw [hone] at e; cases e), fun _ => ⟨_, rfl⟩⟩, by simpa [Value.cells] using listU_mk hw hd⟩
          · exact h.elim
        · exact h.elim
      · exact h.elim
    · exact h.elim
  · exact h.elim
/-- An operation that turns one block, and yields nothing. -/
theorem OpOK.turnT {c : Nat} {ch0 ch : Ch} (hc : lookB B c = some ch0)
    (h : ∀ (K' : KL) (B' : BL), (∀ x, x ∈ o.op.operands → opv K' x = opv K x) → ∀ (C : Ctx) (ρ : Nat → Pl) (F : Nat → Nat → Prop) (a : Act) (w : World), Mem ids C B' ρ F w → Slots K' ρ (Imm C B' F w) a w → lookB B' c = some ch0 → ∃ w', (execOp a.eval o).run P w = .ok (.value (.tuple #[])) w' ∧ Fr (F c) w w' ∧
        (∀ I, Ext (Imm C B' F w) w I w' → Holds ρ I (F c) w' (ρ c) ch)) :
    OpOK P N ids o K B (.tup []) ⟨[c], [], [(c, some ch)]⟩ := by
  rintro K' B' h1 h2 - C a w ⟨hn, hd, ρ, F, hM, hS⟩ hlt Kn Q hK
  have hc' : lookB B' c = some ch0 := (h2 c (by simp)).trans hc
  obtain ⟨w', hx, hfr, hH⟩ := h K' B' h1 C ρ F a w hM hS hc'
  obtain ⟨hM', he⟩ := hM.turn hc' hfr hH
  unfold Oper.wp
  rw [hx, Oper.upon_value]
  exact hK _ _ ⟨put_size.trans hn, put_defers.trans hd, ρ, F, hM', (hS.mono he fun _ _ _ => rfl).putO (fun e he => by rw [hn]; exact hlt e he) ⟨[], rfl, rfl⟩⟩
theorem snd_delete (hP : TblOK P tt) {T T' : TypeId} {x i : Operand} {c : Call} (ho : o.op = .call c) (hc1 : c.callee = .builtin .delete) (hc2 : c.args.toList = [x, i]) (hc3 : c.argTypes.toList = [T, T']) (h : vcDelete tt T (opv K x) (opv K i) B k) : Snd P N ids o K B k := by
  have hargs : c.args = #[x, i] := Array.toList_inj.1 hc2
  have hts : c.argTypes = #[T, T'] := Array.toList_inj.1 hc3
  obtain ⟨cal, args, ts⟩ := c
  simp only at hc1 hargs hts
  subst hc1 hargs hts
  have m1 : x ∈ o.op.operands := by rw [ho]; simp [Op.operands, Call.operands]
  have m2 : i ∈ o.op.operands := by rw [ho]; simp [Op.operands, Call.operands]
  unfold vcDelete at h
  split at h
  · rename_i c hx
    split at h
    · rename_i ku vu es hl
      split at h
      · rename_i kt et key hT hk
        split at h
        · rename_i hok
          obtain ⟨d, hd1, hd2⟩ := keyOK_ok hP hok
          refine Snd.of h <| OpOK.turnT hl fun K' B' g1 C ρ F a w hM hS hl' => ?_
          obtain ⟨hF, ents, clock, hb, hm, hB⟩ := hM.holds c _ hl'
          have e1 := hS.mp ((g1 x m1).trans hx)
          have e2 : a.eval i = keyV ku key := keyS_den hk (hS.ev (g1 i m2))
          obtain ⟨es', hr, hm', hB'⟩ := delete_run (P := P) (ty := o.type) (mapTy_ok hP hT) hd1 hd2 hb hm hB key T'
          have hlt := (Array.getElem?_eq_some_iff.1 hb).1
          refine ⟨{ w with heap := w.heap.setIfInBounds (ρ c).blk (.map (List.toArray es') clock) }, ?_, map_fr ((hF _).2 rfl), fun I hE => ⟨hF, es', clock, by simp [hlt], hm'.mono hE, hB'⟩⟩
          simp [execOp, ho, resolve, invoke, builtin, e1, e2, hr]
        · exact h.elim
      · exact h.elim
    · exact h.elim
  · exact h.elim
/-! ### arrays -/
theorem TIok.arr {T : Nat} {ti : TI} {i : TypeInfo} {d : TypeDesc} (h : TIok P T ti i d) {n e : Nat} (hk : ti.kd = .arr n e) : P.underlying T = some (.array n e) := by
  have := h.kd
  rw [hk] at this
  rw [h.und]
  cases d <;> simp [kdOK] at this ⊢
  exact this
theorem snd_toArr (hP : TblOK P tt) {T : TypeId} {x : Operand} (ho : o.op = .sliceToArrayPointer T x) (h : vcToArr tt T (opv K x) k) : Snd P N ids o K B k := by
  have m1 : x ∈ o.op.operands := by rw [ho]; simp [Op.operands]
  unfold vcToArr at h
  split at h
  · rename_i ti v xs hti hx
    obtain ⟨i, d, hok⟩ := hP.at_ hti
    split at h
    · rename_i n e hk
      obtain ⟨⟨h0, hle⟩, h⟩ := h
      have hu := hok.arr hk
      refine Snd.of h <| OpOK.one hx m1 fun K' ρ I a w hS e1 => ?_
      obtain ⟨A, cap, e3, e4, e5, e6⟩ := hS.lst e1
      injection e3 with e3
      obtain ⟨b, q, rfl, hI, hd⟩ := e6 (by omega)
      refine ⟨.pointer (some ⟨b, q, none⟩), ?_, b, q, rfl, hI, by simp; omega, fun i z hz => ?_⟩
      · have : ¬ List.length xs < n := by omega
        simp [execOp, ho, e3, Instr.arrayAt, run_underlying hu, this]
      · have hz' : lget (α := El v) xs i = some z := by
          unfold lget at hz ⊢
          rw [List.getElem?_take] at hz
          split at hz
          · exact hz
          · cases hz
        exact hd i z hz'
    · exact h.elim
  · exact h.elim
theorem snd_sliceArr (hP : TblOK P tt) {T : TypeId} {x : Operand} {c : Nat} (ho : o.op = .slice T x none none none) (hx : opv K x = .c (.one (.ptr c 0))) (h : vcSliceArr tt T c B k) : Snd P N ids o K B k := by
  have m1 : x ∈ o.op.operands := by rw [ho]; simp [Op.operands]
  unfold vcSliceArr at h
  split at h
  · rename_i ti hti
    obtain ⟨i, d, hok⟩ := hP.at_ hti
    split at h
    · rename_i n e m v hk _
      have hu := hok.arr hk
      split at h
      · rename_i te l hn hte hl
        simp only [Bool.and_eq_true, Nat.beq_eq, Nat.ble_eq, Nat.blt_eq] at hn
        obtain ⟨⟨_, hn1⟩, hn0⟩ := hn
        obtain ⟨ei, ed, hoke⟩ := hP.at_ hte
        obtain ⟨ys, ⟨hw, hl'⟩, h⟩ := h
        refine Snd.of h ?_
        rintro K' B' h1 h2 - C a w ⟨hnn, hdd, ρ, F, hM, hS⟩ hlt Kn Q hK
        have hlB : lookB B' c = some (.cells l) := (h2 c (by simp)).trans hl
        obtain ⟨hF, vs, T', hb, hd⟩ := hM.holds c _ hlB
        have e1 := hS.ptr ((h1 x m1).trans hx)
        subst hl'
        have hdu := listU_mk hw hd
        have hne : n ≠ 0 := by omega
        have hrun : (execOp a.eval o).run P w = .ok (.value (.slice (some ⟨(ρ c).blk, 0, none⟩) n n)) w := by
          simp [execOp, ho, e1, Instr.sliceAt, run_underlying hu, Instr.sureAddr, Instr.sliceBounds, sizeOf, typeInfo, hoke.info, hne, addr_add]
        obtain ⟨hM', hE⟩ := hM.step (B' := dropB B' c) (ρ' := ρ) (F' := F) (w' := w) (fun d => d = c) (fun _ => False) (Fr.refl _ w) (fun d ch hd hne => by
            rw [lookB_dropB, if_neg (fun e => hne e.symm)] at hd
            exact hd) (fun _ _ => rfl) (fun _ _ => rfl) (fun _ _ h => h) (fun _ h => h.elim) (fun _ _ _ _ _ _ h => h)
          (fun d ch hd hM _ => by subst hM; rw [lookB_dropB, if_pos rfl] at hd; cases hd)
          (fun d ch hd hM => by subst hM; rw [lookB_dropB, if_pos rfl] at hd; cases hd)
          (fun d d' ch ch' b hd _ hM => by subst hM; rw [lookB_dropB, if_pos rfl] at hd; cases hd)
        have hFc := (hF (ρ c).blk).2 rfl
        have hI : Imm C (dropB B' c) F w (ρ c).blk := by
          obtain ⟨q1, q2⟩ := hM.own c _ hlB _ hFc
          refine ⟨q1, ?_, fun d ch hd hb' => ?_⟩
          · rcases q2 with q2 | q2
            · exact .inr (.inl q2)
            · exact .inr (.inr q2)
          · rw [lookB_dropB] at hd
            split at hd
            · cases hd
            · rename_i hne
              exact hM.disj c d _ ch _ hlB hd hne hFc hb'
        unfold Oper.wp
        rw [hrun, Oper.upon_value]
        refine hK _ _ ⟨put_size.trans hnn, put_defers.trans hdd, ρ, F, hM', (hS.mono hE fun _ _ _ => rfl).putO (fun e he => by rw [hnn]; exact hlt e he) ?_⟩
        have hlen : List.length ys = n := hw.1
        refine ⟨_, n, by rw [hlen], by omega, by simp only [maxLen]; omega, fun _ => ⟨_, 0, rfl, hI, fun j z hz => ?_⟩⟩
        refine DenU.mono hE v z _ _ (fun q y hq => ?_) (hdu.2 j z hz)
        rw [Nat.zero_add]
        exact cell_of hb hq
      · exact h.elim
    · exact h.elim
  · exact h.elim
theorem snd_makeMap (hP : TblOK P tt) {T : TypeId} (ho : o.op = .makeMap T none) (h : vcMake tt T o.dst ids K B k) : Snd P N ids o K B k := by
  unfold vcMake at h
  split at h
  · rename_i kt et d hT hd
    split at h
    · rename_i ki ei hki hei
      split at h
      · rename_i ku vu _ _
        refine Snd.nw h.2 h.1 <| OpOK.make (fun d h => has_mp h) fun K' B' g1 g2 C ρ F a w hM hS hn => ?_
        refine ⟨.map (some w.heap.size), w.alloc (.map #[] 0), ⟨w.heap.size, none, 0, 0⟩, fun b => b = w.heap.size, by simp only [execOp, ho, Option.map_none, Sem.run_bind, make_run, Result.andThen_ok, Sem.run_pure], alloc_below w _, fun b hb => by subst hb; exact ⟨Nat.le_refl _, by simp⟩, fun I he hb => ⟨⟨fun b => Iff.rfl, [], 0, heap_alloc_at _ rfl, rfl, ⟨by simp, fun e he => by cases he⟩⟩, ?_⟩⟩
        simp only [DenV, DenC, DenS, upd_same]
      · exact h.elim
    · exact h.elim
  · exact h.elim
end
end Go.Proofs.YtolaecebfkdbcaaGreat
