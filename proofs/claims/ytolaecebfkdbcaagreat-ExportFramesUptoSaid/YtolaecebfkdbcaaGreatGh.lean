/-
  Contracts that make something known (an address, for example): calls, regions.
-/
import Derived.Test.YtolaecebfkdbcaaGreatCode
set_option linter.unusedVariables false
set_option linter.unusedSimpArgs false
namespace Go.Proofs.YtolaecebfkdbcaaGreat
open Go.RowKit

/-- As Fn; what is made known: of X. -/
def FnX (P : Program) (f : FuncId) (args : List SV) (Bi : BL) (nw : List Nat) {X : Type} (res : X → SV) (Bo : X → BL) : Prop :=
  callable P f = true ∧ ∀ (ρ : Nat → Pl) (F : Nat → Nat → Prop) (I : Nat → Prop) (w : World) (vals : List Value),
    (∀ b, I b → b < w.heap.size) → (∀ c ch, lookB Bi c = some ch → Holds ρ I (F c) w (ρ c) ch) → (∀ c ch, lookB Bi c = some ch → ∀ b, F c b → b < w.heap.size ∧ ¬ I b) →
    (∀ c c' ch ch' b, lookB Bi c = some ch → lookB Bi c' = some ch' → c ≠ c' → F c b → ¬ F c' b) →
    vals.length = args.length → (∀ (i : Nat) (v : SV) (x : Value), args[i]? = some v → vals[i]? = some x → DenV ρ I w v x) →
    Calls P f vals.toArray w fun e w' => ∃ (g : X) (x : Value) (ρ' : Nat → Pl) (F' : Nat → Nat → Prop), e = .returned x ∧ Fr (fun b => ∃ c ch, lookB Bi c = some ch ∧ F c b) w w' ∧ (∀ c, c ∉ nw → ρ' c = ρ c) ∧
      ∃ I' : Nat → Prop, Ext I w I' w' ∧ (∀ b, I' b → b < w'.heap.size ∧ (I b ∨ (∃ c ch, lookB Bi c = some ch ∧ F c b) ∨ w.heap.size ≤ b)) ∧
      (∀ c ch, lookB (Bo g) c = some ch → Holds ρ' I' (F' c) w' (ρ' c) ch) ∧
      (∀ c ch, lookB (Bo g) c = some ch → ∀ b, F' c b → b < w'.heap.size ∧ ¬ I' b ∧ ((∃ c0 ch0, lookB Bi c0 = some ch0 ∧ F c0 b) ∨ w.heap.size ≤ b)) ∧
      (∀ c c' ch ch' b, lookB (Bo g) c = some ch → lookB (Bo g) c' = some ch' → c ≠ c' → F' c b → ¬ F' c' b) ∧ DenV ρ' I' w' (res g) x
theorem Fn.x {P : Program} {f : FuncId} {args : List SV} {Bi : BL} {nw : List Nat} {res : SV} {Bo : BL} (h : Fn P f args Bi nw res Bo) : FnX P f args Bi nw (fun _ : Unit => res) (fun _ => Bo) :=
  ⟨h.1, fun ρ F I w vals a1 a2 a3 a4 a5 a6 => (h.2 ρ F I w vals a1 a2 a3 a4 a5 a6).mono fun e w' q => ⟨(), q⟩⟩
section
variable {P : Program} {tt : Tr} {N : Nat} {ids : List Nat} {o : Oper} {K : KL} {B : BL}
/-- Behind a call: the state is as its contract says. -/
theorem Sat.back {Bi : BL} {nw : List Nat} {r : SV} {Bo : BL} (hsub : subB B Bi) (hfr0 : allFresh ids K B nw = true) (hout : outOK Bi nw Bo = true) {C : Ctx} {a : Act} {w w' : World} {ρ ρ' : Nat → Pl} {F F' : Nat → Nat → Prop} {I' : Nat → Prop} {x : Value} {dst : Option Nat}
    (hn : a.tmps.size = N) (hd : a.defers = C.ds.map markD) (hM : Mem ids C B ρ F w) (hS : Slots K ρ (Imm C B F w) a w) (hlt : ∀ d, dst = some d → d < N)
    (hfr : Fr (fun b => ∃ c ch, lookB Bi c = some ch ∧ F c b) w w') (hρ : ∀ c, c ∉ nw → ρ' c = ρ c) (he2 : ∀ b, I' b → b < w'.heap.size ∧ (Imm C B F w b ∨ (∃ c ch, lookB Bi c = some ch ∧ F c b) ∨ w.heap.size ≤ b))
    (hH : ∀ c ch, lookB Bo c = some ch → Holds ρ' I' (F' c) w' (ρ' c) ch) (hO : ∀ c ch, lookB Bo c = some ch → ∀ b, F' c b → b < w'.heap.size ∧ ¬ I' b ∧ ((∃ c0 ch0, lookB Bi c0 = some ch0 ∧ F c0 b) ∨ w.heap.size ≤ b))
    (hDj : ∀ c c' ch ch' b, lookB Bo c = some ch → lookB Bo c' = some ch' → c ≠ c' → F' c b → ¬ F' c' b) (hden : DenV ρ' I' w' r x) : Sat N ids C (putK dst r K) (applyB (effB Bi Bo) B) (a.put dst x) w' := by
  have hBi : ∀ {c ch}, lookB Bi c = some ch → lookB B c = some ch := fun {c ch} hc => subB_get hsub hc
  have hfresh : ∀ c ∈ nw, (∀ s, (look K s).has c = false) ∧ lookB B c = none ∧ (∀ d ch, lookB B d = some ch → ch.has c = false) ∧ c ∉ ids := fun c hc => fresh_of (allFresh_get hfr0 c hc)
  have hlk : ∀ c, lookB (applyB (effB Bi Bo) B) c = (match lookB Bo c with | some ch => some ch | none => if c ∈ keysB Bi then none else lookB B c) := applyB_all Bi Bi nw Bo B hout
  have hpart : ∀ c ch, lookB (applyB (effB Bi Bo) B) c = some ch → lookB Bo c = some ch ∨ (lookB Bo c = none ∧ c ∉ keysB Bi ∧ lookB B c = some ch) := fun c ch hc => by
    rw [hlk] at hc
    cases hb : lookB Bo c with
    | some ch' => rw [hb] at hc; exact .inl hc
    | none =>
      rw [hb] at hc
      simp only at hc
      split at hc
      · cases hc
      · rename_i hk; exact .inr ⟨rfl, hk, hc⟩
  let F2 : Nat → Nat → Prop := fun c => if c ∈ keysB Bo then F' c else F c
  have hF2 : ∀ c ch, lookB Bo c = some ch → F2 c = F' c := fun c ch hc => if_pos (keysB_mem.2 ⟨ch, hc⟩)
  have hF2' : ∀ c, lookB Bo c = none → F2 c = F c := fun c hc => if_neg (fun hk => by
    obtain ⟨ch, h⟩ := keysB_mem.1 hk
    rw [hc] at h; cases h)
  have hM1 : ∀ c ch, lookB Bo c = some ch → c ∈ keysB Bi ∨ c ∈ nw := fun c ch hc => outOK_get hout (keysB_mem.2 ⟨ch, hc⟩)
  have hnM : ∀ c ch, lookB (applyB (effB Bi Bo) B) c = some ch → (c ∈ keysB Bi ∨ c ∈ nw) → lookB Bo c = some ch := fun c ch hc hM' => by
    rcases hpart c ch hc with h | ⟨h1, h2, h3⟩
    · exact h
    · rcases hM' with h | h
      · exact absurd h h2
      · rw [(hfresh c h).2.1] at h3; cases h3
  have hI2 : Ext I' w' (Imm C (applyB (effB Bi Bo) B) F2 w') w' := fun b hb => by
    obtain ⟨e1, e2⟩ := he2 b hb
    refine ⟨⟨e1, ?_, fun c ch hc hF => ?_⟩, rfl⟩
    · rcases e2 with e2 | ⟨c, ch, e2, e3⟩ | e2
      · exact e2.2.1
      · exact .inr ((hM.own c ch (hBi e2) b e3).2)
      · exact .inr (.inr (hM.fresh e2))
    · rcases hpart c ch hc with h | ⟨h1, h2, h3⟩
      · rw [hF2 c ch h] at hF
        exact (hO c ch h b hF).2.1 hb
      · rw [hF2' c h1] at hF
        rcases e2 with e2 | ⟨d, ch', e2, e3⟩ | e2
        · exact e2.2.2 c ch h3 hF
        · exact hM.disj d c ch' ch b (hBi e2) h3 (fun e => h2 (e ▸ keysB_mem.2 ⟨ch', e2⟩)) e3 hF
        · have := (hM.own c ch h3 b hF).1; omega
  obtain ⟨hM', hE⟩ := hM.step (B' := applyB (effB Bi Bo) B) (ρ' := ρ') (F' := F2) (w' := w') (fun c => c ∈ keysB Bi ∨ c ∈ nw) (fun c => c ∈ nw)
    (hfr.mono fun b _ ⟨c, ch, h1, h2⟩ => ⟨c, ch, hBi h1, .inl (keysB_mem.2 ⟨ch, h1⟩), h2⟩)
    (fun c ch hc hn => by
      rcases hpart c ch hc with h | ⟨_, _, h3⟩
      · exact absurd (hM1 c ch h) hn
      · exact h3)
    hρ
    (fun c hn => by
      cases hb : lookB Bo c with
      | none => exact hF2' c hb
      | some ch => exact absurd (hM1 c ch hb) hn)
    (fun c hc hn => (hfresh c hn).2.2.2 hc) (fun c h => .inr h)
    (fun c ch hc _ d hd hn => by rw [(hfresh d hn).2.2.1 c ch hc] at hd; cases hd)
    (fun c ch hc hM' _ => by
      have hb := hnM c ch hc hM'
      rw [hF2 c ch hb]
      exact Holds.stable hI2 (fun _ _ => rfl) (Nat.le_refl _) ch (fun _ _ => rfl) (hH c ch hb))
    (fun c ch hc hM' b hb => by
      have hbo := hnM c ch hc hM'
      rw [hF2 c ch hbo] at hb
      obtain ⟨e1, _, e3⟩ := hO c ch hbo b hb
      refine ⟨e1, e3.imp (fun ⟨c0, ch0, h1, h2⟩ => ⟨c0, ch0, hBi h1, .inl (keysB_mem.2 ⟨ch0, h1⟩), h2⟩) id⟩)
    (fun c c' ch ch' b hc hc' hM1 hM2 hne hb hb' => by
      have h1 := hnM c ch hc hM1
      have h2 := hnM c' ch' hc' hM2
      rw [hF2 c ch h1] at hb
      rw [hF2 c' ch' h2] at hb'
      exact hDj c c' ch ch' b h1 h2 hne hb hb')
  refine ⟨put_size.trans hn, put_defers.trans hd, ρ', F2, hM', (hS.mono hE fun s d hd => hρ d fun hn => by rw [(hfresh d hn).1 s] at hd; cases hd).putO (fun e he => by rw [hn]; exact hlt e he) (DenV.mono hI2 _ _ (fun _ _ => rfl) hden)⟩
theorem opX_call {f : FuncId} {args : List SV}
    (hex : ∀ (ρ : Nat → Pl) (I : Nat → Prop) (a : Act) (w : World), Slots K ρ I a w → ∃ vals : List Value, (callable P f = true → (execOp a.eval o).run P w = .ok (.enter f vals.toArray) w) ∧ vals.length = args.length ∧ ∀ (i : Nat) (v : SV) (x : Value), args[i]? = some v → vals[i]? = some x → DenV ρ I w v x)
    {X : Type} {Bi : BL} {nw : List Nat} {res : X → SV} {Bo : X → BL} (hfx : FnX P f args Bi nw res Bo) (hsub : subB B Bi) (hfr0 : allFresh ids K B nw = true) (hok : ∀ g, (allFresh ids K B nw && outOK Bi nw (Bo g)) = true)
    {C : Ctx} {a : Act} {w : World} (hs : Sat N ids C K B a w) (hlt : ∀ d, o.dst = some d → d < N) {Kn : Act → World → Prop} {Q : Exit → Act → World → Prop} (hK : ∀ g a' w', Sat N ids C (putK o.dst (res g) K) (applyB (effB Bi (Bo g)) B) a' w' → Kn a' w') : o.wp P a w Kn Q := by
  obtain ⟨hcall, hfn⟩ := hfx
  obtain ⟨hn, hd, ρ, F, hM, hS⟩ := hs
  have hBi : ∀ {c ch}, lookB Bi c = some ch → lookB B c = some ch := fun {c ch} hc => subB_get hsub hc
  obtain ⟨vals, hrun, hvl, hvd⟩ := hex ρ _ a w hS
  have hc := hfn ρ F (Imm C B F w) w vals (fun b hb => hb.1) (fun c ch hc => hM.holds c ch (hBi hc)) (fun c ch hc b hb => ⟨(hM.own c ch (hBi hc) b hb).1, fun hI => hI.2.2 c ch (hBi hc) hb⟩)
    (fun c c' ch ch' b h1 h2 => hM.disj c c' ch ch' b (hBi h1) (hBi h2)) hvl hvd
  unfold Oper.wp
  rw [hrun hcall, Oper.upon_enter]
  refine hc.mono ?_
  rintro e w' ⟨g, x, ρ', F', rfl, hfr, hρ, I', he1, he2, hH, hO, hDj, hden⟩
  exact hK g _ _ (Sat.back hsub hfr0 (Bool.and_eq_true _ _ ▸ hok g).2 hn hd hM hS hlt hfr hρ he2 hH hO hDj hden)
theorem FnX.of (hP : TblOK P tt) {f : FuncId} {fn : Func} {c : Code} (stops : List Nat) (args : List SV) (Bi : BL) (nw : List Nat) {X : Type} (res : X → SV) (Bo : X → BL) (hf : P.funcs[f]? = some fn) (hb : fn.body = some c) (hn : fn.ntmps = N) (hcall : callable P f = true) (hc : codeOK P N c = true) (hargs : Nat.ble args.length N = true) (hD : DrawOK P tt N (keysB Bi)) {rs : List ResultVar} (hrs : fn.results.toList = rs)
    (h : vc P tt N (keysB Bi) stops c (argsK 0 args) Bi (fun e K B => ∃ g, RetQ tt (keysB Bi) nw rs (res g) (Bo g) e K B)) : FnX P f args Bi nw res Bo := by
  refine ⟨hcall, ?_⟩
  intro ρ F I w vals hI hH hF hdj hlen hden
  have hargs := Nat.le_of_ble_eq_true hargs
  refine in_calls (r := none) (n := 0) (callsIn_of_wp_marks hf hb trivial ?_)
  let C : Ctx := ⟨w, I, fun b => ∃ c ch, lookB Bi c = some ch ∧ F c b, ρ, []⟩
  have hImm : Ext I w (Imm C Bi F w) w := fun b hb => ⟨⟨hI b hb, .inl hb, fun c ch hc hFb => (hF c ch hc b hFb).2 hb⟩, rfl⟩
  have hM : Mem (keysB Bi) C Bi ρ F w := ⟨Fr.refl _ _, fun c ch hc => Holds.stable hImm (fun _ _ => rfl) (Nat.le_refl _) ch (fun _ _ => rfl) (hH c ch hc), fun c ch hc b hb => ⟨(hF c ch hc b hb).1, .inl ⟨c, ch, hc, hb⟩⟩, hdj, fun c _ => rfl, List.nodup_nil, fun b hb => hb.elim (hI b) fun ⟨c, ch, hc, hF'⟩ => (hF c ch hc b hF').1, fun D hD => by cases hD⟩
  refine vc_sound hP hD stops c _ _ _ hc h none (fun _ => rfl) C _ ?_ _ w ⟨by simp [hlen, hn]; omega, rfl, ρ, F, hM, fun s => ?_⟩
  · intro e K' B' ds _ he a' w' hs'
    obtain ⟨g, he⟩ := he
    cases e with
    | ex i => exact he.elim
    | _ =>
      obtain ⟨K2, B2, r, hle, hr, hp, hsub, ham⟩ := he
      refine leave_sat hs' fun w' hs' => ?_
      obtain ⟨hn2, hd2, ρ', F', hM', hS'⟩ := hle N C _ w' hs'
      obtain ⟨vs, hrun, hvs⟩ : ∃ vs : List Value, (rs.mapM (resV a'.tmps)).run P w' = .ok vs w' ∧ DenCL ρ' (Imm C B2 F' w') w' r vs := run_res hP hM' hS' rs r hr
      have hres : ∃ x, (results fn a'.tmps).run P w' = .ok x w' ∧ DenV ρ' (Imm C B2 F' w') w' (packR r) x := by
        have h1 : fn.results = rs.toArray := by rw [← hrs]
        have h2 : (fn.results.mapM (resV a'.tmps)).run P w' = .ok (List.toArray vs) w' := by
          rw [h1, List.mapM_toArray]
          simp [hrun]
        have h3 : results fn a'.tmps = (do let vs ← fn.results.mapM (resV a'.tmps); pure (if h : vs.size = 1 then vs[0] else .tuple vs)) := rfl
        rw [h3]
        match r, vs, hvs, h2 with
        | [], _, e, h2 => rw [show _ = [] from e] at h2; exact ⟨.tuple #[], by simp [h2], [], rfl, rfl⟩
        | [x], _, ⟨v, s, e, hv, hs⟩, h2 =>
          have hs : s = [] := hs
          subst hs e
          exact ⟨v, by simp [h2], hv⟩
        | x :: y :: r, _, ⟨v, s, e, hv, v2, s2, e2, hv2, hs2⟩, h2 =>
          subst e2 e
          exact ⟨.tuple (List.toArray (v :: v2 :: s2)), by simp [h2], _, rfl, v, _, rfl, hv, v2, s2, rfl, hv2, hs2⟩
      obtain ⟨x, hx, hxd⟩ := hres
      have hxd := leV_den hp hxd
      simp only [Bool.and_eq_true] at ham
      let ρ2 : Nat → Pl := fun c => if c ∈ nw then ρ' c else ρ c
      have hρ2 : ∀ c, c ∈ keysB Bi ++ nw → ρ2 c = ρ' c := fun c hc => by
        show (if c ∈ nw then ρ' c else ρ c) = ρ' c
        split
        · rfl
        · rename_i hn
          rcases List.mem_append.1 hc with h | h
          · exact (hM'.keep c h).symm
          · exact absurd h hn
      refine ⟨x, hx, g, x, ρ2, F', rfl, hM'.fr, fun c hc => if_neg hc, Imm C B2 F' w', ?_, fun b hb => ⟨hb.1, ?_⟩, ?_, ?_, ?_, ?_⟩
      · intro b hb
        have hnF : ¬ C.F0 b := fun ⟨c, ch, h1, h2⟩ => (hF c ch h1 b h2).2 hb
        refine ⟨⟨Nat.lt_of_lt_of_le (hI b hb) hM'.fr.size, .inl hb, fun c ch hc hFb => ?_⟩, hM'.fr.block b (hI b hb) hnF⟩
        rcases (hM'.own c ch hc b hFb).2 with h | h
        · exact hnF h
        · have := hI b hb; exact absurd h.1 (Nat.not_le.2 this)
      · rcases hb.2.1 with h | h | h
        · exact .inl h
        · exact .inr (.inl h)
        · exact .inr (.inr h.1)
      · intro c ch hc
        have hk : c ∈ keysB Bi ++ nw := by
          have := List.all_eq_true.1 ham.2 c (keysB_mem.2 ⟨ch, hc⟩)
          simpa only [List.contains_iff_mem] using this
        rw [hρ2 c hk]
        exact Holds.stable (Ext.refl _ _) (fun _ _ => rfl) (Nat.le_refl _) ch (fun d hd => hρ2 d (Ch.among_has (amongB_get ham.1.2 hc) hd)) (hM'.holds c ch (subB_get hsub hc))
      · intro c ch hc b hb
        have hc' := subB_get hsub hc
        exact ⟨(hM'.own c ch hc' b hb).1, fun hi => hi.2.2 c ch hc' hb, (hM'.own c ch hc' b hb).2.imp id fun x => x.1⟩
      · exact fun c c' ch ch' b h1 h2 => hM'.disj c c' ch ch' b (subB_get hsub h1) (subB_get hsub h2)
      · exact DenV.mono (Ext.refl _ _) (res g) x (fun c hc => hρ2 c (SV.among_has ham.1.1 hc)) hxd
  · rw [look_argsK]
    simp only [Nat.zero_le, if_true, Nat.sub_zero]
    cases hs : args[s]? with
    | none => trivial
    | some v =>
      have hlt : s < vals.length := by rw [hlen]; exact (List.getElem?_eq_some_iff.1 hs).1
      simp only [Option.getD_some]
      have hx : vals[s]? = some vals[s] := List.getElem?_eq_getElem hlt
      have := DenV.mono hImm v _ (fun _ _ => rfl) (hden s v _ hs hx)
      simpa [Array.getElem?_append, hlt, hx] using this
/-! ### regions -/
def callOf (K : KL) (o : Oper) : Option (FuncId × List SV) := match o.op with
  | .call c => match c.callee with
    | .value (.func f) => some (f, c.args.toList.map (opv K))
    | .value (.tmp t) => match look K t with
      | .c (.one (.clo f l)) => some (f, c.args.toList.map (opv K) ++ capV l)
      | _ => none
    | _ => none
  | _ => none
def vcCallX (P : Program) (f : FuncId) (args : List SV) (ids : List Nat) (K : KL) (B : BL) (k : SV → Eff → Prop) : Prop :=
  ∃ (X : Type) (Bi : BL) (nw : List Nat) (res : X → SV) (Bo : X → BL), FnX P f args Bi nw res Bo ∧ subB B Bi ∧ allFresh ids K B nw = true ∧ (∀ g, (allFresh ids K B nw && outOK Bi nw (Bo g)) = true) ∧ ∀ g, forceV (res g) fun r => k r ⟨keysB Bi, nw, effB Bi (Bo g)⟩
/-- An operation that may come out in several ways: S tells each. -/
def OpS (P : Program) (ids : List Nat) (o : Oper) (K : KL) (B : BL) (S : SV → Eff → Prop) : Prop :=
  ∀ (N : Nat) (C : Ctx) (a : Act) (w : World), Sat N ids C K B a w → (∀ d, o.dst = some d → d < N) → ∀ (Kn : Act → World → Prop) (Q : Exit → Act → World → Prop), (∀ v e a' w', S v e → Sat N ids C (putK o.dst v K) (applyB e.wc B) a' w' → Kn a' w') → o.wp P a w Kn Q
def isX (o : Oper) : Bool := match o.op with
  | .next _ _ => true
  | .binOp .eql _ _ (.const (.slice none 0 0)) _ => true
  | .call c => match c.callee with
    | .builtin .delete => true
    | _ => false
  | _ => false
/-- A round of a range over a function, asked for by a call of yield. -/
def YieldX (P : Program) (l : Nat) (args : List SV) (Bi : BL) {X : Type} (res : X → SV) (Bo : X → BL) : Prop :=
  ∀ (ρ : Nat → Pl) (F : Nat → Nat → Prop) (I : Nat → Prop) (w : World) (vals : List Value),
    (∀ b, I b → b < w.heap.size) → (∀ c ch, lookB Bi c = some ch → Holds ρ I (F c) w (ρ c) ch) → (∀ c ch, lookB Bi c = some ch → ∀ b, F c b → b < w.heap.size ∧ ¬ I b) →
    (∀ c c' ch ch' b, lookB Bi c = some ch → lookB Bi c' = some ch' → c ≠ c' → F c b → ¬ F c' b) →
    vals.length = args.length → (∀ (i : Nat) (v : SV) (x : Value), args[i]? = some v → vals[i]? = some x → DenV ρ I w v x) →
    ∃ f tmps assign body, (Instr.yield l vals.toArray).run P w = .ok (.round l f tmps assign body) w ∧ RoundIn (wideR none) 0 P l f tmps assign body w fun e w' => ∃ (g : X) (x : Value) (ρ' : Nat → Pl) (F' : Nat → Nat → Prop), e = .returned x ∧ Fr (fun b => ∃ c ch, lookB Bi c = some ch ∧ F c b) w w' ∧ (∀ c, ρ' c = ρ c) ∧
      ∃ I' : Nat → Prop, Ext I w I' w' ∧ (∀ b, I' b → b < w'.heap.size ∧ (I b ∨ (∃ c ch, lookB Bi c = some ch ∧ F c b) ∨ w.heap.size ≤ b)) ∧
      (∀ c ch, lookB (Bo g) c = some ch → Holds ρ' I' (F' c) w' (ρ' c) ch) ∧
      (∀ c ch, lookB (Bo g) c = some ch → ∀ b, F' c b → b < w'.heap.size ∧ ¬ I' b ∧ ((∃ c0 ch0, lookB Bi c0 = some ch0 ∧ F c0 b) ∨ w.heap.size ≤ b)) ∧
      (∀ c c' ch ch' b, lookB (Bo g) c = some ch → lookB (Bo g) c' = some ch' → c ≠ c' → F' c b → ¬ F' c' b) ∧ DenV ρ' I' w' (res g) x
def yieldOf (K : KL) (o : Oper) : Option (Nat × List SV) := match o.op with
  | .call c => match c.callee with
    | .value (.tmp t) => match look K t with
      | .c (.one (.raw (.func (.yield l) fs cs))) => match fs.toList, cs.toList with
        | [], [] => some (l, c.args.toList.map (opv K))
        | _, _ => none
      | _ => none
    | _ => none
  | _ => none
def vcYield (P : Program) (l : Nat) (args : List SV) (B : BL) (k : SV → Eff → Prop) : Prop :=
  ∃ (X : Type) (Bi : BL) (res : X → SV) (Bo : X → BL), YieldX P l args Bi res Bo ∧ subB B Bi ∧ (∀ g, outOK Bi [] (Bo g) = true) ∧ ∀ g, forceV (res g) fun r => k r ⟨keysB Bi, [], effB Bi (Bo g)⟩
theorem exec_yield {ev : Operand → Value} {l : Nat} {c : Call} {x : Operand} {xs : List Operand} {w : World} (ho : o.op = .call c) (h1 : c.callee = .value x) (h2 : c.args.toList = xs) (hev : ev x = .func (.yield l) #[] #[]) : (execOp ev o).run P w = (Instr.yield l (xs.map ev).toArray).run P w := by
  have hargs : c.args = xs.toArray := by rw [← h2]
  obtain ⟨cal, args, ts⟩ := c
  simp only at h1 hargs
  subst h1 hargs
  simp [execOp, ho, resolve, invoke, hev, Deferred.ofValue]
theorem yieldOf_run {l : Nat} {xs : List SV} (h : yieldOf K o = some (l, xs)) {ρ : Nat → Pl} {I : Nat → Prop} {a : Act} {w : World} (hS : Slots K ρ I a w) : ∃ vals : List Value, (execOp a.eval o).run P w = (Instr.yield l vals.toArray).run P w ∧ (∀ c, o.op ≠ .defer c) ∧ vals.length = xs.length ∧ ∀ (i : Nat) (v : SV) (x : Value), xs[i]? = some v → vals[i]? = some x → DenV ρ I w v x := by
  unfold yieldOf at h
  split at h
  · rename_i c ho
    split at h
    · rename_i t hc
      split at h
      · rename_i l' fs cs hl
        split at h
        · rename_i hfs hcs
          injection h with h
          injection h with h1 h2
          subst h1 h2
          have hfs : fs = #[] := by rw [← Array.toList_inj]; exact hfs
          have hcs : cs = #[] := by rw [← Array.toList_inj]; exact hcs
          subst hfs hcs
          have hv : a.eval (.tmp t) = .func (.yield l') #[] #[] := hS.ev (x := .tmp t) (s := .c (.one (.raw (.func (.yield l') #[] #[])))) hl
          have hnd : ∀ d, o.op ≠ .defer d := fun d e => by rw [ho] at e; cases e
          refine ⟨c.args.toList.map a.eval, ?_, hnd, by simp, fun i v x hv hx => ?_⟩
          · exact exec_yield ho hc rfl hv
          · rw [List.getElem?_map] at hv hx
            obtain ⟨z, hz, rfl⟩ := Option.map_eq_some_iff.1 hv
            rw [hz] at hx
            simp only [Option.map_some, Option.some.injEq] at hx
            subst hx
            exact hS.get z
        · cases h
      · cases h
    · cases h
  · cases h
theorem opX_yield {l : Nat} {args : List SV} (ho : yieldOf K o = some (l, args)) {X : Type} {Bi : BL} {res : X → SV} {Bo : X → BL} (hy : YieldX P l args Bi res Bo) (hsub : subB B Bi) (hok : ∀ g, outOK Bi [] (Bo g) = true)
    {C : Ctx} {a : Act} {w : World} (hs : Sat N ids C K B a w) (hlt : ∀ d, o.dst = some d → d < N) {r : Option Nat} {Kn : Act → World → Prop} {Q : Exit → Act → World → Prop} (hK : ∀ g a' w', Sat N ids C (putK o.dst (res g) K) (applyB (effB Bi (Bo g)) B) a' w' → Kn a' w') : o.wpIn (wideR r) 0 P a w Kn Q := by
  obtain ⟨hn, hd, ρ, F, hM, hS⟩ := hs
  have hBi : ∀ {c ch}, lookB Bi c = some ch → lookB B c = some ch := fun {c ch} hc => subB_get hsub hc
  obtain ⟨vals, hrun, hnd, hvl, hvd⟩ := yieldOf_run (P := P) (w := w) ho hS
  obtain ⟨f, tmps, assign, body, hy1, hy2⟩ := hy ρ F (Imm C B F w) w vals (fun b hb => hb.1) (fun c ch hc => hM.holds c ch (hBi hc)) (fun c ch hc b hb => ⟨(hM.own c ch (hBi hc) b hb).1, fun hI => hI.2.2 c ch (hBi hc) hb⟩)
    (fun c c' ch ch' b h1 h2 => hM.disj c c' ch ch' b (hBi h1) (hBi h2)) hvl hvd
  refine ⟨fun _ _ => trivial, ?_⟩
  rw [Oper.semAt_eq _ _ _ hnd, hrun, hy1, Oper.uponIn_round]
  refine ⟨fun hs => absurd hs (by simp), RoundIn.mono (F := wideR r) (n := 0 - 1) hy2 ?_⟩
  rintro e w' ⟨g, x, ρ', F', rfl, hfr, hρ, I', he1, he2, hH, hO, hDj, hden⟩
  exact hK g _ _ (Sat.back hsub rfl (hok g) hn hd hM hS hlt hfr (fun c _ => hρ c) he2 hH hO hDj hden)
/-- A pointer to a block of the caller's own goes into a map. -/
def ptrUpd (K : KL) (o : Oper) : Bool := match o.op with
  | .mapUpdate _ _ _ v => match opv K v with
    | .c (.one (.ptr _ 0)) => true
    | _ => false
  | _ => false
def vcOpX (P : Program) (tt : Tr) (ids : List Nat) (o : Oper) (K : KL) (B : BL) (k : SV → Eff → Prop) : Prop := match callOf K o with
  | some (f, xs) => vcCallX P f xs ids K B k
  | none => match yieldOf K o with
    | some (l, xs) => vcYield P l xs B k
    | none => match isX o || ptrUpd K o with
      | true => ∃ S : SV → Eff → Prop, OpS P ids o K B S ∧ ∀ v e, S v e → forceV v fun v => k v e
      | false => vcOp P tt ids o K B k
def vcsXS (P : Program) (tt : Tr) (ids : List Nat) (all : List Oper) (o : Oper) (l : List Oper) (ih : KL → BL → Prop) (K : KL) (B : BL) : Prop :=
  match wants all K o.guard with
  | none => False
  | some false => match o.dst with
    | some d => ih ((d, .undef) :: K) B
    | none => ih K B
  | some true => vcOpX P tt ids o K B fun v e => match o.dst with
    | none => ih K (applyB e.wc B)
    | some d => match isG (all.length - l.length - 1) l, v with
      | true, .c (.one (.d (.bool b))) => (b = true → ih ((d, .c (.one (.d (.lit true)))) :: K) (applyB e.wc B)) ∧ (b = false → ih ((d, .c (.one (.d (.lit false)))) :: K) (applyB e.wc B))
      | _, v => ih ((d, v) :: K) (applyB e.wc B)
noncomputable def vcsX (P : Program) (tt : Tr) (ids : List Nat) (all l : List Oper) (K : KL) (B : BL) (k : KL → BL → Prop) : Prop :=
  List.rec (motive := fun _ => KL → BL → Prop) k (fun o l ih K B => vcsXS P tt ids all o l ih K B) l K B
theorem vcsX_cons {all l : List Oper} {k : KL → BL → Prop} : vcsX P tt ids all (o :: l) K B k = vcsXS P tt ids all o l (fun K B => vcsX P tt ids all l K B k) K B := rfl
theorem callOf_sound {f : FuncId} {xs : List SV} (h : callOf K o = some (f, xs)) (ρ : Nat → Pl) (I : Nat → Prop) (a : Act) (w : World) (hS : Slots K ρ I a w) : ∃ vals : List Value, (callable P f = true → (execOp a.eval o).run P w = .ok (.enter f vals.toArray) w) ∧ vals.length = xs.length ∧ ∀ (i : Nat) (v : SV) (x : Value), xs[i]? = some v → vals[i]? = some x → DenV ρ I w v x := by
  unfold callOf at h
  split at h
  · rename_i c ho
    split at h
    · rename_i f' hc
      injection h with h
      injection h with h1 h2
      subst h1 h2
      refine ⟨c.args.toList.map a.eval, fun hcall => exec_call hcall ho hc rfl rfl, by simp, fun i v x hv hx => ?_⟩
      rw [List.getElem?_map] at hv hx
      obtain ⟨z, hz, rfl⟩ := Option.map_eq_some_iff.1 hv
      rw [hz] at hx
      simp only [Option.map_some, Option.some.injEq] at hx
      subst hx
      exact hS.get z
    · rename_i t hc
      split at h
      · rename_i f' l hl
        injection h with h
        injection h with h1 h2
        subst h1 h2
        have hv := hS t
        rw [hl] at hv
        obtain ⟨vs, e, hcp⟩ := hv
        obtain ⟨q1, q2⟩ := DenCaps.vals l vs hcp
        refine ⟨c.args.toList.map a.eval ++ vs, fun hcall => exec_callv hcall ho hc rfl e, by simp [q1], fun i v x hv hx => ?_⟩
        by_cases hi : i < c.args.toList.length
        · rw [List.getElem?_append_left (by simpa using hi)] at hv hx
          rw [List.getElem?_map] at hv hx
          obtain ⟨z, hz, rfl⟩ := Option.map_eq_some_iff.1 hv
          rw [hz] at hx
          simp only [Option.map_some, Option.some.injEq] at hx
          subst hx
          exact hS.get z
        · rw [List.getElem?_append_right (by simpa using hi)] at hv hx
          simp only [List.length_map] at hv hx
          exact q2 _ v x hv hx
      · cases h
    · cases h
  · cases h
theorem vcOpX_sound (hP : TblOK P tt) (hnd : ∀ c, o.op ≠ .defer c) (r : Option Nat) {k : SV → Eff → Prop} (h : vcOpX P tt ids o K B k) {C : Ctx} {a : Act} {w : World} (hs : Sat N ids C K B a w) (hlt : ∀ d, o.dst = some d → d < N) {Kn : Act → World → Prop} {Q : Exit → Act → World → Prop} (hK : ∀ v e a' w', k v e → Sat N ids C (putK o.dst v K) (applyB e.wc B) a' w' → Kn a' w') : o.wpIn (wideR r) 0 P a w Kn Q := by
  unfold vcOpX at h
  split at h
  · rename_i f xs hc
    obtain ⟨X, Bi, nw, res, Bo, h1, h2, h3, h4, h5⟩ := h
    refine op_in hnd (opX_call (callOf_sound hc) h1 h2 h3 h4 hs hlt fun g a' w' hs' => ?_)
    have h5 := h5 g
    rw [forceV_eq] at h5
    exact hK _ _ _ _ h5 hs'
  · split at h
    · rename_i l xs hc
      obtain ⟨X, Bi, res, Bo, h1, h2, h3, h4⟩ := h
      refine opX_yield hc h1 h2 h3 hs hlt fun g a' w' hs' => ?_
      have h4 := h4 g
      rw [forceV_eq] at h4
      exact hK _ _ _ _ h4 hs'
    · split at h
      · obtain ⟨S, hS, h⟩ := h
        refine op_in hnd (hS N C a w hs hlt Kn Q fun v e a' w' hv hs' => ?_)
        have h := h v e hv
        rw [forceV_eq] at h
        exact hK _ _ _ _ h hs'
      · obtain ⟨v, e, h, hO, hf⟩ := vcOp_sound hP h
        exact op_in hnd (hO K B (fun _ _ => rfl) (fun _ _ => rfl) hf C a w hs hlt Kn Q fun a' w' hs2 => hK _ _ _ _ h hs2)
theorem vcsX_seq (hP : TblOK P tt) (all : List Oper) : ∀ (l : List Oper) (K : KL) (B : BL) (k : KL → BL → Prop), dstOK N l = true → vcsX P tt ids all l K B k → ∀ (C : Ctx) (a : Act) (w : World), Sat N ids C K B a w →
    ∀ (r : Option Nat) (Q : Exit → Act → World → Prop), (∀ K' B', k K' B' → ∀ a' w', Sat N ids C K' B' a' w' → Q .normal a' w') → wpListIn (wideR r) 0 P all.toArray Q l a w
  | [], K, B, k, _, h, C, a, w, hs, r, Q, hk => wpListIn_nil (hk K B h a w hs)
  | o :: l, K, B, k, hd, h, C, a, w, hs, r, Q, hk => by
    simp only [dstOK, Bool.and_eq_true] at hd
    obtain ⟨⟨hd0, hnd⟩, hdl⟩ := hd
    have hnd := notDefer hnd
    have hlt : ∀ d, o.dst = some d → d < N := fun d e => by rw [e] at hd0; simpa [Nat.blt_eq] using hd0
    have hs' := hs
    obtain ⟨_, _, ρ, F, hM, hS⟩ := hs'
    rw [vcsX_cons] at h
    unfold vcsXS at h
    refine wpListIn_step fun Kn hKn => ?_
    split at h
    · exact h.elim
    · rename_i hw
      rw [if_neg (by rw [wants_sound hw hS]; simp)]
      refine ⟨fun _ _ => trivial, hKn _ _ ?_⟩
      have hu := hs.undef o.dst hlt
      split at h
      · rename_i d e
        rw [e] at hu ⊢
        exact vcsX_seq hP all l _ _ k hdl h C _ w hu r Q hk
      · rename_i e
        rw [e] at hu ⊢
        exact vcsX_seq hP all l _ _ k hdl h C _ w hu r Q hk
    · rename_i hw
      rw [if_pos (wants_sound hw hS)]
      refine vcOpX_sound hP hnd r h hs hlt fun v e a' w' h hs2 => hKn _ _ ?_
      split at h
      · rename_i e2
        rw [e2] at hs2
        exact vcsX_seq hP all l _ _ k hdl h C _ w' hs2 r Q hk
      · rename_i d e2
        rw [e2] at hs2
        split at h
        · rename_i b hg
          cases b with
          | true => exact vcsX_seq hP all l _ _ k hdl (h.1 rfl) C _ w' hs2.lit r Q hk
          | false => exact vcsX_seq hP all l _ _ k hdl (h.2 rfl) C _ w' hs2.lit r Q hk
        · exact vcsX_seq hP all l _ _ k hdl h C _ w' hs2 r Q hk
theorem TrQ.regionX (hP : TblOK P tt) {id : Nat} {ops : Array Oper} {Q : Ex → KL → BL → Prop} (hd : dstOK N ops.toList = true) (h : vcsX P tt ids ops.toList ops.toList K B (fun K B => Q .nrm K B)) : TrQ P N ids (.region id ops false) K B Q := by
  intro r hr C Qs hq a w hs
  refine wpIn_region_list ?_
  have := vcsX_seq hP ops.toList ops.toList K B _ hd h C a w hs r Qs (fun K' B' hk a' w' hs' => hq .nrm K' B' C.ds (fun _ => rfl) hk a' w' hs')
  simpa using this
/-- From one state to others, of which one holds. -/
def LeX (ids : List Nat) (K : KL) (B : BL) {X : Type} (K' : X → KL) (B' : X → BL) : Prop := ∀ (N : Nat) (C : Ctx) (a : Act) (w : World), Sat N ids C K B a w → ∃ x, Sat N ids C (K' x) (B' x) a w
theorem TrQ.leX {c : Code} {X : Type} {K' : X → KL} {B' : X → BL} {Q : Ex → KL → BL → Prop} (h : LeX ids K B K' B') (ht : ∀ x, TrQ P N ids c (K' x) (B' x) Q) : TrQ P N ids c K B Q := fun r hr C Qs hq a w hs => by
  obtain ⟨x, hx⟩ := h N C a w hs
  exact ht x r hr C Qs hq a w hx
end
end Go.Proofs.YtolaecebfkdbcaaGreat
