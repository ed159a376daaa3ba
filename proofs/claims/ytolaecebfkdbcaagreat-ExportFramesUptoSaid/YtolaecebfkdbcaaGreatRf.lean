/-
  Ranges over a function: whoever ranges has its blocks in one object while the iterator runs; a round is its body's walk.
-/
import Derived.Test.YtolaecebfkdbcaaGreatGx
set_option linter.unusedVariables false
set_option linter.unusedSimpArgs false
namespace Go.Proofs.YtolaecebfkdbcaaGreat
open Go.RowKit

/-- The record of a loop over a function. -/
@[reducible] def recOf (fn : FuncId) (tmps : Array Value) (ps : Array Nat) (assign body : Code) (D : Nat) (st : LoopState) : Loop := { state := st, pending := none, fn := fn, tmps := tmps, params := ps, assign := assign, body := body, defers := D }
/-- The blocks of whoever ranges, and the loop's record l: those of kp lie where they lay; what was laid ahead is as it was. -/
def rngR (ρ0 : Nat → Pl) (kp : List Nat) (Ie : Nat → Prop) (we : World) (l : Nat) (rec : Loop) (c : Nat) (B : BL) (I F : Nat → Prop) (w : World) (p : Pl) : Prop :=
  Ext Ie we I w ∧ w.heap[l]? = some (.loop rec) ∧ ∃ (ρ : Nat → Pl) (G : Nat → Nat → Prop), ρ c = p ∧ (∀ d, d ∈ kp → ρ d = ρ0 d) ∧ (∀ d ch, lookB B d = some ch → Holds ρ I (G d) w (ρ d) ch) ∧
    (∀ d d' ch ch' b, lookB B d = some ch → lookB B d' = some ch' → d ≠ d' → G d b → ¬ G d' b) ∧ (∀ d ch, lookB B d = some ch → ¬ G d l) ∧ ∀ b, F b ↔ b = l ∨ ∃ d ch, lookB B d = some ch ∧ G d b
def Ob.rng (ρ0 : Nat → Pl) (kp : List Nat) (Ie : Nat → Prop) (we : World) (l : Nat) (rec : Loop) (c : Nat) (B : BL) : Ob where
  R := rngR ρ0 kp Ie we l rec c B
  stable := fun I F w I' w' p ⟨h0, hl, ρ, G, h1, h1', h2, h3, h3', h4⟩ he hF hz =>
    ⟨h0.trans he, (hF l ((h4 l).2 (.inl rfl))).trans hl, ρ, G, h1, h1', fun d ch hd => Holds.stable he (fun b hb => hF b ((h4 b).2 (.inr ⟨d, ch, hd, hb⟩))) hz ch (fun _ _ => rfl) (h2 d ch hd), h3, h3', h4⟩
def allAmong (l : List Nat) : List SV → Bool
  | [] => true
  | v :: vs => v.among l && allAmong l vs
theorem allAmong_get {l : List Nat} : ∀ {vs : List SV}, allAmong l vs = true → ∀ {i : Nat} {v : SV}, vs[i]? = some v → v.among l = true
  | [], _, i, v, h => by simp at h
  | x :: vs, h, i, v, hv => by
    simp only [allAmong, Bool.and_eq_true] at h
    match i with
    | 0 =>
      simp only [List.getElem?_cons_zero, Option.some.injEq] at hv
      exact hv ▸ h.1
    | i + 1 => exact allAmong_get h.2 (i := i) (by simpa using hv)
def amongK (l : List Nat) : KL → Bool
  | [] => true
  | (_, v) :: K => v.among l && amongK l K
theorem amongK_get {l : List Nat} : ∀ {K : KL}, amongK l K = true → ∀ s, (look K s).among l = true
  | [], _, s => rfl
  | (t, v) :: K, h, s => by
    simp only [amongK, Bool.and_eq_true] at h
    rw [look_cons]
    split
    · exact h.1
    · exact amongK_get h.2 s
section
variable {P : Program} {tt : Tr} {N : Nat} {ρ0 : Nat → Pl} {kp : List Nat} {Ie : Nat → Prop} {we : World} {l : Nat} {rec : Loop} {c : Nat}
theorem look1 {c : Nat} {ch : Ch} : lookB [(c, ch)] c = some ch := by rw [lookB_cons, if_pos rfl]
theorem look1_of {c d : Nat} {ch ch' : Ch} (h : lookB [(c, ch)] d = some ch') : d = c ∧ ch' = ch := by
  rw [lookB_cons] at h
  split at h
  · rename_i e; injection h with h; exact ⟨e.symm, h.symm⟩
  · cases h
/-- A call on the blocks is a call on the object. -/
theorem rng_lift {f : FuncId} {args : List SV} {res : SV} {Bx By : BL} (h : Fn P f args Bx [] res By) (ha : allAmong [c] args = true) (hr : res.among [] = true) :
    Fn P f args [(c, .obj (Ob.rng ρ0 kp Ie we l rec c Bx))] [] res [(c, .obj (Ob.rng ρ0 kp Ie we l rec c By))] := by
  refine ⟨h.1, fun ρ F I w vals hI hH hF hdj hlen hden => ?_⟩
  have hJ : rngR ρ0 kp Ie we l rec c Bx I (F c) w (ρ c) := hH c _ look1
  obtain ⟨h0, hl, ρi, G, q1, q1', q2, q3, q3', q4⟩ := hJ
  have hFc : ∀ b, F c b → b < w.heap.size ∧ ¬ I b := fun b hb => hF c _ look1 b hb
  have hll : l < w.heap.size := lt_of_heap hl
  have hlG : ¬ ∃ d ch, lookB Bx d = some ch ∧ G d l := fun ⟨d, ch, hd, hg⟩ => q3' d ch hd hg
  refine (h.2 ρi G I w vals hI q2 (fun d ch hd b hb => hFc b ((q4 b).2 (.inr ⟨d, ch, hd, hb⟩))) q3 hlen ?_).mono ?_
  · intro i v x hv hx
    refine DenV.mono (Ext.refl _ _) v x (fun j hj => ?_) (hden i v x hv hx)
    have := SV.among_has (allAmong_get ha hv) hj
    rw [List.mem_singleton] at this
    subst this
    exact q1
  · rintro e w' ⟨x, ρ', F', rfl, hfr, hρ, I', he1, he2, hH', hO, hDj, hden'⟩
    have hl' : w'.heap[l]? = some (.loop rec) := (hfr.block l hll hlG).trans hl
    have hlI : ¬ I' l := fun hi => by
      rcases (he2 l hi).2 with h | h | h
      · exact (hFc l ((q4 l).2 (.inl rfl))).2 h
      · exact hlG h
      · omega
    refine ⟨x, ρ, fun d => if d = c then (fun b => b = l ∨ ∃ d ch, lookB By d = some ch ∧ F' d b) else F d, rfl, hfr.mono fun b _ ⟨d, ch, hd, hg⟩ => ⟨c, _, look1, (q4 b).2 (.inr ⟨d, ch, hd, hg⟩)⟩, fun _ _ => rfl, I', he1, fun b hb => ⟨(he2 b hb).1, ?_⟩, ?_, ?_, ?_, ?_⟩
    · rcases (he2 b hb).2 with h | ⟨d, ch, hd, hg⟩ | h
      · exact .inl h
      · exact .inr (.inl ⟨c, _, look1, (q4 b).2 (.inr ⟨d, ch, hd, hg⟩)⟩)
      · exact .inr (.inr h)
    · intro d ch hd
      obtain ⟨rfl, rfl⟩ := look1_of hd
      simp only [if_true]
      refine ⟨h0.trans he1, hl', ρ', F', (hρ _ (by simp)).trans q1, fun d hd => (hρ d (by simp)).trans (q1' d hd), hH', hDj, fun d ch hd hg => ?_, fun b => Iff.rfl⟩
      rcases (hO d ch hd l hg).2.2 with h | h
      · exact hlG h
      · omega
    · intro d ch hd b hb
      obtain ⟨rfl, rfl⟩ := look1_of hd
      simp only [if_true] at hb
      rcases hb with rfl | ⟨d, ch, hd, hb⟩
      · exact ⟨lt_of_heap hl', hlI, .inl ⟨_, _, look1, (q4 _).2 (.inl rfl)⟩⟩
      · obtain ⟨r1, r2, r3⟩ := hO d ch hd b hb
        exact ⟨r1, r2, r3.imp (fun ⟨d, ch, hd, hg⟩ => ⟨_, _, look1, (q4 b).2 (.inr ⟨d, ch, hd, hg⟩)⟩) id⟩
    · intro d d' ch ch' b hd hd' hne
      exact absurd ((look1_of hd).1.trans (look1_of hd').1.symm) hne
    · exact DenV.mono (Ext.refl _ _) res x (fun j hj => by have := SV.among_has hr hj; cases this) hden'
/-! ### a round -/
def parK : List Nat → List SV → KL → KL
  | [], _, K => K
  | p :: pl, vs, K => match vs with
    | [] => K
    | v :: vs => parK pl vs ((p, v) :: K)
theorem par_slots {ρ : Nat → Pl} {I : Nat → Prop} {w : World} : ∀ (pl : List Nat) (vs : List SV) (vals : List Value) (K : KL) (t : Array Value), vals.length = vs.length → (∀ p, p ∈ pl → p < t.size) → (∀ (i : Nat) (v : SV) (x : Value), vs[i]? = some v → vals[i]? = some x → DenV ρ I w v x) →
    (∀ s, DenV ρ I w (look K s) (t.getD s undef)) → (((pl.zip vals).foldl (fun t (p : Nat × Value) => t.setIfInBounds p.1 p.2) t).size = t.size ∧ ∀ s, DenV ρ I w (look (parK pl vs K) s) (((pl.zip vals).foldl (fun t (p : Nat × Value) => t.setIfInBounds p.1 p.2) t).getD s undef))
  | [], vs, vals, K, t, _, _, _, h => ⟨rfl, h⟩
  | p :: pl, [], [], K, t, _, _, _, h => ⟨rfl, h⟩
  | p :: pl, [], _ :: _, K, t, hl, _, _, h => by simp at hl
  | p :: pl, _ :: _, [], K, t, hl, _, _, h => by simp at hl
  | p :: pl, v :: vs, x :: vals, K, t, hl, hp, hv, h => by
    have hp0 := hp p (List.mem_cons_self ..)
    obtain ⟨g1, g2⟩ := par_slots pl vs vals ((p, v) :: K) (t.setIfInBounds p x) (by simpa using hl) (fun q hq => by rw [Array.size_setIfInBounds]; exact hp q (List.mem_cons_of_mem _ hq)) (fun i u y hu hy => hv (i + 1) u y (by simpa using hu) (by simpa using hy)) (fun s => by
      rw [look_cons]
      by_cases e : p = s
      · subst e
        rw [if_pos rfl]
        have : (t.setIfInBounds p x).getD p undef = x := by simp [hp0]
        rw [this]
        exact hv 0 v x rfl rfl
      · rw [if_neg e]
        have : (t.setIfInBounds p x).getD s undef = t.getD s undef := by simp [Array.getElem?_setIfInBounds_ne e]
        rw [this]
        exact h s)
    refine ⟨?_, g2⟩
    rw [List.zip_cons_cons, List.foldl_cons]
    exact g1.trans (Array.size_setIfInBounds)
/-- What stood ahead and nobody wrote is still so. -/
theorem Mem.ext0 {ids : List Nat} {C : Ctx} {B : BL} {ρ : Nat → Pl} {F : Nat → Nat → Prop} {w : World} (h : Mem ids C B ρ F w) (hF : ∀ b, C.I0 b → ¬ C.F0 b) : Ext C.I0 C.w0 (Imm C B F w) w := fun b hb => by
  have h1 := h.marks.2.1 b (.inl hb)
  refine ⟨⟨Nat.lt_of_lt_of_le h1 h.fr.size, .inl hb, fun c ch hc hf => ?_⟩, h.fr.block b h1 (hF b hb)⟩
  rcases (h.own c ch hc b hf).2 with h2 | h2
  · exact hF b hb h2
  · have := h2.1; omega
set_option maxHeartbeats 1000000 in
theorem rng_yield (hP : TblOK P tt) {fn : FuncId} {tmps : Array Value} {ps : Array Nat} {pl : List Nat} {assign body : Code} {D : Nat} (hps : ps.toList = pl) (hpl : ∀ p, p ∈ pl → p < N) (hsz : tmps.size = N) (hcA : codeOK P N assign = true) (hcB : codeOK P N body = true)
    {KI : KL} (hKI : amongK kp KI = true) (hc : c ∈ kp) (hsl : ∀ s, DenV ρ0 Ie we (look KI s) (tmps.getD s undef)) (stops : List Nat) {vs : List SV} (hvl : vs.length = pl.length) (hva : allAmong [] vs = true) {Bx By : BL}
    (hvc : vc P tt N (0 :: kp) stops assign (parK pl vs KI) Bx (fun e K B => e = .nrm ∧ vc P tt N (0 :: kp) stops body K B (fun e K B => e = .nrm ∧ Le (0 :: kp) K B [] By))) :
    YieldX P l vs [(c, .obj (Ob.rng ρ0 kp Ie we l (recOf fn tmps ps assign body D .ready) c Bx))] (fun _ : Unit => vLit true) (fun _ => [(c, .obj (Ob.rng ρ0 kp Ie we l (recOf fn tmps ps assign body D .ready) c By))]) := by
  intro ρ F I w vals hI hH hF hdj hlen hden
  have hJ : rngR ρ0 kp Ie we l (recOf fn tmps ps assign body D .ready) c Bx I (F c) w (ρ c) := hH c _ look1
  obtain ⟨h0, hl, ρi, G, q1, q1', q2, q3, q3', q4⟩ := hJ
  have hFc : ∀ b, F c b → b < w.heap.size ∧ ¬ I b := fun b hb => hF c _ look1 b hb
  have hll : l < w.heap.size := lt_of_heap hl
  have hlG : ¬ ∃ d ch, lookB Bx d = some ch ∧ G d l := fun ⟨d, ch, hd, hg⟩ => q3' d ch hd hg
  have hlI0 : ¬ I l := (hFc l ((q4 l).2 (.inl rfl))).2
  have hGc : ∀ {d ch b}, lookB Bx d = some ch → G d b → F c b := fun {d ch b} hd hg => (q4 b).2 (.inr ⟨d, ch, hd, hg⟩)
  have hy := run_yield (P := P) (args := vals.toArray) hl (by rw [List.size_toArray, hlen, hvl, ← hps, Array.length_toList])
  refine ⟨fn, _, assign, body, hy, roundIn_of_wpIn (F := wideR none) trivial ?_⟩
  have htm : ((ps.zip vals.toArray).foldl (fun tmps (x : Nat × Value) => tmps.setIfInBounds x.1 x.2) tmps) = (pl.zip vals).foldl (fun t (p : Nat × Value) => t.setIfInBounds p.1 p.2) tmps := by
    rw [← hps, ← Array.foldl_toList]
    congr 1
    simp
  obtain ⟨g1, g2⟩ := par_slots (ρ := ρi) (I := I) (w := w) pl vs vals KI tmps hlen (fun p hp => by rw [hsz]; exact hpl p hp) (fun i v x hv hx => DenV.mono (Ext.refl _ _) v x (fun j hj => by have := SV.among_has (allAmong_get hva hv) hj; cases this) (hden i v x hv hx))
    (fun s => DenV.mono h0 _ _ (fun j hj => q1' j (SV.among_has (amongK_get hKI s) hj)) (hsl s))
  let C1 : Ctx := ⟨w, I, fun b => ∃ d ch, lookB Bx d = some ch ∧ G d b, ρi, []⟩
  have hImm : Ext I w (Imm C1 Bx G w) w := fun b hb => ⟨⟨hI b hb, .inl hb, fun d ch hd hg => (hFc b (hGc hd hg)).2 hb⟩, rfl⟩
  have hM1 : Mem (0 :: kp) C1 Bx ρi G w := ⟨Fr.refl _ _, fun d ch hd => Holds.stable hImm (fun _ _ => rfl) (Nat.le_refl _) ch (fun _ _ => rfl) (q2 d ch hd), fun d ch hd b hb => ⟨(hFc b (hGc hd hb)).1, .inl ⟨d, ch, hd, hb⟩⟩, q3, fun _ _ => rfl, List.nodup_nil,
    fun b hb => hb.elim (hI b) fun ⟨d, ch, hd, hg⟩ => (hFc b (hGc hd hg)).1, fun D hD => by cases hD⟩
  have hs1 : Sat N (0 :: kp) C1 (parK pl vs KI) Bx ⟨(ps.zip vals.toArray).foldl (fun tmps (x : Nat × Value) => tmps.setIfInBounds x.1 x.2) tmps, []⟩ w := by
    rw [htm]
    exact ⟨g1.trans hsz, rfl, ρi, G, hM1, fun s => DenV.mono hImm _ _ (fun _ _ => rfl) (g2 s)⟩
  refine vc_sound hP (drawOK hP) stops assign _ _ _ hcA hvc (some l) (fun h => by simp [inRnd] at h) C1 _ ?_ _ w hs1
  rintro e K2 B2 ds hds ⟨rfl, hvc2⟩ a1 w1 hs2
  have hds : ds = [] := hds (by simp [inRnd])
  subst hds
  obtain ⟨n1, d1, ρ1, F1, hM2, hS2⟩ := hs2
  have hM2 : Mem (0 :: kp) C1 B2 ρ1 F1 w1 := hM2
  have hl1 : w1.heap[l]? = some (.loop (recOf fn tmps ps assign body D .ready)) := (hM2.fr.block l hll hlG).trans hl
  have hll1 := lt_of_heap hl1
  have hlI : ¬ Imm C1 B2 F1 w1 l := fun hi => by
    rcases hi.2.1 with h | h | h
    · exact hlI0 h
    · exact hlG h
    · have h : w.heap.size ≤ l := h.1
      omega
  have hlF : ∀ d ch, lookB B2 d = some ch → ¬ F1 d l := fun d ch hd hf => by
    rcases (hM2.own d ch hd l hf).2 with h | h
    · exact hlG h
    · have h : w.heap.size ≤ l := h.1
      omega
  refine ⟨_, run_beginRound hl1 rfl, ?_⟩
  obtain ⟨w2, hw2⟩ : ∃ w2, w2 = w1.putObj l (.loop { recOf fn tmps ps assign body D .ready with state := .busy }) := ⟨_, rfl⟩
  rw [← hw2]
  have hsz2 : w2.heap.size = w1.heap.size := by rw [hw2, World.putObj_size]
  have hoth2 : ∀ b, b ≠ l → w2.heap[b]? = w1.heap[b]? := fun b hb => by rw [hw2]; exact World.putObj_heap_other hb
  have hl2 : w2.heap[l]? = some (.loop { recOf fn tmps ps assign body D .ready with state := .busy }) := by rw [hw2]; exact World.putObj_heap_same hll1
  have hos2 : w2.os = w1.os ∧ w2.tape = w1.tape ∧ w2.output = w1.output := by rw [hw2]; exact ⟨rfl, rfl, rfl⟩
  let C2 : Ctx := ⟨w2, Imm C1 B2 F1 w1, fun b => ∃ d ch, lookB B2 d = some ch ∧ F1 d b, ρ1, []⟩
  have hI2 : Ext (Imm C1 B2 F1 w1) w1 (Imm C2 B2 F1 w2) w2 := fun b hb => ⟨⟨by rw [hsz2]; exact hb.1, .inl hb, hb.2.2⟩, hoth2 b (fun e => hlI (e ▸ hb))⟩
  have hM3 : Mem (0 :: kp) C2 B2 ρ1 F1 w2 := ⟨Fr.refl _ _, fun d ch hd => Holds.stable hI2 (fun b hb => hoth2 b (fun e => hlF d ch hd (e ▸ hb))) (Nat.le_of_eq hsz2.symm) ch (fun _ _ => rfl) (hM2.holds d ch hd), fun d ch hd b hb => ⟨by rw [hsz2]; exact (hM2.own d ch hd b hb).1, .inl ⟨d, ch, hd, hb⟩⟩, hM2.disj, fun _ _ => rfl, List.nodup_nil,
    fun b hb => by
      show b < w2.heap.size
      rw [hsz2]
      exact hb.elim (fun hb => hb.1) fun ⟨d, ch, hd, hg⟩ => (hM2.own d ch hd b hg).1, fun D hD => by cases hD⟩
  refine vc_sound hP (drawOK hP) stops body _ _ _ hcB hvc2 (some l) (fun h => by simp [inRnd] at h) C2 _ ?_ a1 w2 ⟨n1, d1, ρ1, F1, hM3, hS2.mono hI2 fun _ _ _ => rfl⟩
  rintro e K3 B3 ds hds ⟨rfl, hle⟩ a3 w3 hs3
  have hds : ds = [] := hds (by simp [inRnd])
  subst hds
  obtain ⟨n3, d3, ρ3, F3, hM4, hS4⟩ := hle N (C2.at []) a3 w3 hs3
  have hM4 : Mem (0 :: kp) C2 By ρ3 F3 w3 := hM4
  have hl3 : w3.heap[l]? = some (.loop { recOf fn tmps ps assign body D .ready with state := .busy }) := (hM4.fr.block l (lt_of_heap hl2) (fun ⟨d, ch, hd, hg⟩ => hlF d ch hd hg)).trans hl2
  have hll3 := lt_of_heap hl3
  have hI3l : ¬ Imm C2 By F3 w3 l := fun hi => by
    rcases hi.2.1 with h | h | h
    · exact hlI h
    · obtain ⟨d, ch, hd, hg⟩ := h; exact hlF d ch hd hg
    · have h : w2.heap.size ≤ l := h.1
      omega
  have hF3l : ∀ d ch, lookB By d = some ch → ¬ F3 d l := fun d ch hd hf => by
    rcases (hM4.own d ch hd l hf).2 with h | h
    · obtain ⟨d, ch, hd, hg⟩ := h; exact hlF d ch hd hg
    · have h : w2.heap.size ≤ l := h.1
      omega
  obtain ⟨w4, hw4⟩ : ∃ w4, w4 = w3.putObj l (.loop (recOf fn tmps ps assign body D .ready)) := ⟨_, rfl⟩
  have hrun : (Instr.endRound l none).run P w3 = .ok (.bool true) w4 := by rw [hw4]; exact run_endRound none hl3
  refine ⟨.bool true, w4, hrun, ?_⟩
  have hsz4 : w4.heap.size = w3.heap.size := by rw [hw4, World.putObj_size]
  have hoth4 : ∀ b, b ≠ l → w4.heap[b]? = w3.heap[b]? := fun b hb => by rw [hw4]; exact World.putObj_heap_other hb
  have hl4 : w4.heap[l]? = some (.loop (recOf fn tmps ps assign body D .ready)) := by rw [hw4]; exact World.putObj_heap_same hll3
  have hos4 : w4.os = w3.os ∧ w4.tape = w3.tape ∧ w4.output = w3.output := by rw [hw4]; exact ⟨rfl, rfl, rfl⟩
  have e01 : Ext I w (Imm C1 B2 F1 w1) w1 := hM2.ext0 fun b hb ⟨d, ch, hd, hg⟩ => (hFc b (hGc hd hg)).2 hb
  have e12 : Ext (Imm C1 B2 F1 w1) w1 (Imm C1 B2 F1 w1) w2 := fun b hb => ⟨hb, (hI2 b hb).2⟩
  have e23 : Ext (Imm C1 B2 F1 w1) w2 (Imm C2 By F3 w3) w3 := hM4.ext0 fun b hb ⟨d, ch, hd, hg⟩ => hb.2.2 d ch hd hg
  have e34 : Ext (Imm C2 By F3 w3) w3 (Imm C2 By F3 w3) w4 := fun b hb => ⟨hb, hoth4 b (fun e => hI3l (e ▸ hb))⟩
  have eI : Ext I w (Imm C2 By F3 w3) w4 := e01.trans (e12.trans (e23.trans e34))
  have z01 := hM2.fr.size
  have z01 : w.heap.size ≤ w1.heap.size := z01
  have z23 : w2.heap.size ≤ w3.heap.size := hM4.fr.size
  have o1 : ∀ {b}, (C2.F0 b ∨ C2.w0.heap.size ≤ b ∧ b ∉ C2.ds) → F c b ∨ w.heap.size ≤ b := fun {b} h => by
    rcases h with ⟨d, ch, hd, hg⟩ | h
    · rcases (hM2.own d ch hd b hg).2 with ⟨d, ch, hd, hg⟩ | h
      · exact .inl (hGc hd hg)
      · exact .inr h.1
    · have h : w2.heap.size ≤ b := h.1
      exact .inr (by omega)
  refine ⟨(), .bool true, ρ, fun d => if d = c then (fun b => b = l ∨ ∃ d ch, lookB By d = some ch ∧ F3 d b) else F d, rfl, ?_, fun _ => rfl, Imm C2 By F3 w3, eI, fun b hb => ⟨by rw [hsz4]; exact hb.1, ?_⟩, ?_, ?_, ?_, rfl⟩
  · have f1 : Fr (fun b => F c b) w w1 := hM2.fr.mono fun b _ ⟨d, ch, hd, hg⟩ => hGc hd hg
    have f2 : Fr (fun b => b = l) w1 w2 := ⟨hos2.1, hos2.2.1, hos2.2.2, Nat.le_of_eq hsz2.symm, fun b _ hb => hoth2 b hb⟩
    have f3 : Fr C2.F0 w2 w3 := hM4.fr
    have f4 : Fr (fun b => b = l) w3 w4 := ⟨hos4.1, hos4.2.1, hos4.2.2, Nat.le_of_eq hsz4.symm, fun b _ hb => hoth4 b hb⟩
    have hcl : F c l := (q4 l).2 (.inl rfl)
    have f : Fr (fun b => F c b) w w4 := ((f1.trans f2 fun b _ (hb : b = l) => by rw [hb]; exact hcl).trans f3 fun b hb hf => by
      rcases o1 (.inl hf) with h | h
      · exact h
      · omega).trans f4 fun b _ (hb : b = l) => by rw [hb]; exact hcl
    exact f.mono fun b _ hb => ⟨c, _, look1, hb⟩
  · rcases hb.2.1 with h | h
    · rcases h.2.1 with h | ⟨d, ch, hd, hg⟩ | h
      · exact .inl h
      · exact .inr (.inl ⟨c, _, look1, hGc hd hg⟩)
      · exact .inr (.inr h.1)
    · exact .inr ((o1 h).imp (fun h => ⟨c, _, look1, h⟩) id)
  · intro d ch hd
    obtain ⟨rfl, rfl⟩ := look1_of hd
    simp only [if_true]
    have hk : ∀ d, d ∈ kp → ρ3 d = ρi d := fun d hd => (hM4.keep d (List.mem_cons_of_mem _ hd)).trans (hM2.keep d (List.mem_cons_of_mem _ hd))
    exact ⟨h0.trans eI, hl4, ρ3, F3, (hk _ hc).trans q1, fun d hd => (hk d hd).trans (q1' d hd), fun d ch hd => Holds.stable e34 (fun b hb => hoth4 b (fun e => hF3l d ch hd (e ▸ hb))) (Nat.le_of_eq hsz4.symm) ch (fun _ _ => rfl) (hM4.holds d ch hd), hM4.disj, hF3l, fun b => Iff.rfl⟩
  · intro d ch hd b hb
    obtain ⟨rfl, rfl⟩ := look1_of hd
    simp only [if_true] at hb
    rcases hb with rfl | ⟨d, ch, hd, hb⟩
    · exact ⟨by rw [hsz4]; exact hll3, hI3l, .inl ⟨_, _, look1, (q4 _).2 (.inl rfl)⟩⟩
    · obtain ⟨r1, r2⟩ := hM4.own d ch hd b hb
      exact ⟨by rw [hsz4]; exact r1, fun hi => hi.2.2 d ch hd hb, (o1 r2).imp (fun h => ⟨_, _, look1, h⟩) id⟩
  · intro d d' ch ch' b hd hd' hne
    exact absurd ((look1_of hd).1.trans (look1_of hd').1.symm) hne
/-! ### the statement -/
theorem exec_val {f : FuncId} {w : World} {cs args : Array Value} (hf : callable P f = true) : (invoke (.fn (.func f) cs) args).run P w = .ok (.enter f (args ++ cs)) w := by
  unfold callable at hf
  split at hf
  · rename_i fn hfn
    simp only [Bool.not_eq_true', Bool.or_eq_false_iff, beq_eq_false_iff_ne] at hf
    have h2 : ¬ fn.body = none := fun e => by rw [e] at hf; simp at hf
    simp [invoke, callFunc, go_sem, hfn]
    rw [if_neg hf.1, if_neg h2]
  · cases hf
set_option maxHeartbeats 1000000 in
theorem TrQ.range (hP : TblOK P tt) {ids : List Nat} (stops : List Nat) {s : Nat} {ps : Array Nat} {pl : List Nat} {assign body : Code} (hps : ps.toList = pl) (hcA : codeOK P N assign = true) (hcB : codeOK P N body = true) (hpl : (pl.all fun p => Nat.blt p N) = true)
    {f : FuncId} {caps : List Cap} (hf : callable P f = true) (kp : List Nat) (K KI : KL) (Bc : BL) {X : Type} (BI : X → BL) (c : Nat) (x0 xN : X) (Y : X → List SV → X → Prop)
    (hsk : look K s = .c (.one (.clo f caps))) (hKI : subK K KI)
    (hk : (kp.contains c && amongK kp KI && ids.all kp.contains && !inRnd ids) = true) (hbc : ((keysB (BI x0)).all (fun d => !(keysB Bc).contains d) && !(keysB Bc).contains c) = true)
    (hY : ∀ x vs x', Y x vs x' → vs.length = pl.length ∧ allAmong [] vs = true ∧ vc P tt N (0 :: kp) stops assign (parK pl vs KI) (BI x) (fun e K B => e = .nrm ∧ vc P tt N (0 :: kp) stops body K B (fun e K B => e = .nrm ∧ Le (0 :: kp) K B [] (BI x'))))
    (hit : ∀ (l : Nat) (J : X → Ob), (∀ f' args res x x', Fn P f' args (BI x) [] res (BI x') → allAmong [c] args = true → res.among [] = true → Fn P f' args [(c, .obj (J x))] [] res [(c, .obj (J x'))]) →
      (∀ x vs x', Y x vs x' → YieldX P l vs [(c, .obj (J x))] (fun _ : Unit => vLit true) (fun _ => [(c, .obj (J x'))])) →
      Fn P f (.c (.one (.raw (.func (.yield l) #[] #[]))) :: capV caps) (Bc ++ [(c, .obj (J x0))]) [] (.tup []) [(c, .obj (J xN))])
    {Q : Ex → KL → BL → Prop} (hQ : Q .nrm KI (BI xN)) : TrQ P N ids (.rangeFunc (.tmp s) ps assign body) K (Bc ++ BI x0) Q := by
  intro r hr C Qs hq a w hs
  simp only [Bool.and_eq_true, Bool.not_eq_true'] at hk hbc
  obtain ⟨⟨⟨hk1, hk2⟩, hk3⟩, hid⟩ := hk
  obtain ⟨hb1, hb2⟩ := hbc
  have hk1 := mem_of_contains hk1
  have hids : ∀ d, d ∈ ids → d ∈ kp := fun d hd => mem_of_contains (List.all_eq_true.1 hk3 d hd)
  have hcB0 : lookB Bc c = none := by
    cases e : lookB Bc c with
    | none => rfl
    | some ch => have := List.contains_iff_mem.2 (keysB_mem.2 ⟨ch, e⟩); rw [hb2] at this; cases this
  have hr := hr hid
  subst hr
  obtain ⟨hn, hd, ρ, F, hM, hS⟩ := hs
  have lkI : ∀ {d ch}, lookB (BI x0) d = some ch → lookB (Bc ++ BI x0) d = some ch ∧ lookB Bc d = none := fun {d ch} h => by
    have hk := List.all_eq_true.1 hb1 d (keysB_mem.2 ⟨ch, h⟩)
    have hn : lookB Bc d = none := by
      cases e : lookB Bc d with
      | none => rfl
      | some ch' => rw [List.contains_iff_mem.2 (keysB_mem.2 ⟨ch', e⟩)] at hk; cases hk
    exact ⟨by rw [lookB_app, hn]; exact h, hn⟩
  have lkC : ∀ {d ch}, lookB Bc d = some ch → lookB (Bc ++ BI x0) d = some ch := fun {d ch} h => by rw [lookB_app, h]
  refine wpIn_rangeFunc fun fn _ => ?_
  obtain ⟨rec, hrec⟩ : ∃ rec, rec = recOf fn a.tmps ps assign body w.heap.size .ready := ⟨_, rfl⟩
  obtain ⟨w1, hw1⟩ : ∃ w1, w1 = (w.alloc (.deferred (some []))).alloc (.loop rec) := ⟨_, rfl⟩
  have hB1 : Below w.heap.size w w1 := by rw [hw1]; exact ((Below.refl _ w).alloc (Nat.le_refl _) _).alloc (by simp) _
  have hsz1 : w1.heap.size = w.heap.size + 2 := by rw [hw1]; simp
  have hL1 : w1.heap[w.heap.size + 1]? = some (.loop rec) := by rw [hw1]; have := World.alloc_heap_new (w.alloc (.deferred (some []))) (.loop rec); rwa [World.size_alloc] at this
  have hD1 : w1.heap[w.heap.size]? = some (.deferred (some [])) := by rw [hw1]; exact (Below.heap_alloc _ _ _ (by simp)).trans (World.alloc_heap_new w _)
  obtain ⟨l, hl0⟩ : ∃ l, l = w.heap.size + 1 := ⟨_, rfl⟩
  rw [← hl0] at hL1
  let Ie := Imm C (Bc ++ BI x0) F w
  have hE1 : Ext Ie w Ie w1 := fun b hb => ⟨hb, hB1.block b hb.1⟩
  let J := fun x => Ob.rng ρ kp Ie w1 l rec c (BI x)
  have hv := hS s
  rw [hsk] at hv
  obtain ⟨cs, ev, hcp⟩ := hv
  obtain ⟨hcv1, hcv2⟩ := DenCaps.vals caps cs hcp
  have hsl : ∀ t, DenV ρ Ie w1 (look KI t) (a.tmps.getD t undef) := fun t => by
    rcases subK_get hKI t with h | h
    · exact DenV.mono hE1 _ _ (fun _ _ => rfl) (leV_den h (hS t))
    · rw [h]; trivial
  have hfn := hit l J (fun f' args res x x' h ha hr => rng_lift h ha hr) (fun x vs x' hy => by
    obtain ⟨y1, y2, y3⟩ := hY x vs x' hy
    show YieldX P l vs [(c, .obj (Ob.rng ρ kp Ie w1 l rec c (BI x)))] (fun _ : Unit => vLit true) (fun _ => [(c, .obj (Ob.rng ρ kp Ie w1 l rec c (BI x')))])
    rw [hrec]
    exact rng_yield hP hps (fun p hp => by have := List.all_eq_true.1 hpl p hp; simpa [Nat.blt_eq] using this) hn hcA hcB hk2 hk1 hsl stops y1 y2 y3)
  refine ⟨l, [markD w.heap.size], w1, { target := .fn (.func f) cs.toArray, args := #[.func (.yield l) #[] #[]] }, w1, f, #[.func (.yield l) #[] #[]] ++ cs.toArray, w1, ?_, ?_, fun _ _ => trivial, exec_val hf, fun h => absurd h (by simp), calls_in ?_⟩
  · rw [hw1, hl0, hrec]; exact run_enterLoop_outer _ _ _ _ _
  · have ev' : a.eval (.tmp s) = .func (.func f) #[] cs.toArray := ev
    simp only [resolve, ev']
    simp [go_sem]
  have hvals : #[Value.func (.yield l) #[] #[]] ++ cs.toArray = (Value.func (.yield l) #[] #[] :: cs).toArray := by simp
  rw [hvals]
  have hF1 : ∀ b, (∃ d ch, lookB (BI x0) d = some ch ∧ F d b) → b < w.heap.size := fun b ⟨d, ch, hd, hb⟩ => (hM.own d ch (lkI hd).1 b hb).1
  let F1 : Nat → Nat → Prop := fun d => if d = c then (fun b => b = l ∨ ∃ d ch, lookB (BI x0) d = some ch ∧ F d b) else F d
  have hcase : ∀ {d ch}, lookB (Bc ++ [(c, Ch.obj (J x0))]) d = some ch → (d = c ∧ ch = .obj (J x0)) ∨ (d ≠ c ∧ lookB Bc d = some ch) := fun {d ch} h => by
    rw [lookB_app] at h
    cases e : lookB Bc d with
    | some ch' =>
      rw [e] at h
      exact .inr ⟨fun ec => (by rw [ec, hcB0] at e; cases e), h⟩
    | none =>
      rw [e] at h
      obtain ⟨e1, e2⟩ := look1_of h
      exact .inl ⟨e1, e2⟩
  have hcl : lookB (Bc ++ [(c, Ch.obj (J x0))]) c = some (.obj (J x0)) := by rw [lookB_app, hcB0]; exact look1
  have hF1c : F1 c = (fun b => b = l ∨ ∃ d ch, lookB (BI x0) d = some ch ∧ F d b) := if_pos rfl
  have hF1d : ∀ {d}, d ≠ c → F1 d = F d := fun {d} h => if_neg h
  have hlw : w.heap.size ≤ l := by omega
  refine (hfn.2 ρ F1 Ie w1 _ (fun b hb => by have := hb.1; omega) ?_ ?_ ?_ (by simp [hcv1]) ?_).mono ?_
  · intro d ch hd
    rcases hcase hd with ⟨rfl, rfl⟩ | ⟨e, hd⟩
    · rw [hF1c]
      exact ⟨Ext.refl _ _, hL1, ρ, F, rfl, fun _ _ => rfl, fun d ch hd => Holds.stable hE1 (fun b hb => hB1.block b (hM.own d ch (lkI hd).1 b hb).1) hB1.size ch (fun _ _ => rfl) (hM.holds d ch (lkI hd).1), fun d d' ch ch' b h1 h2 => hM.disj d d' ch ch' b (lkI h1).1 (lkI h2).1,
        fun d ch hd hb => by have := (hM.own d ch (lkI hd).1 l hb).1; omega, fun b => Iff.rfl⟩
    · rw [hF1d e]
      exact Holds.stable hE1 (fun b hb => hB1.block b (hM.own d ch (lkC hd) b hb).1) hB1.size ch (fun _ _ => rfl) (hM.holds d ch (lkC hd))
  · intro d ch hd b hb
    rcases hcase hd with ⟨rfl, rfl⟩ | ⟨e, hd⟩
    · rw [hF1c] at hb
      rcases hb with rfl | ⟨d, ch, hd, hb⟩
      · exact ⟨lt_of_heap hL1, fun hi => by have := hi.1; omega⟩
      · have := (hM.own d ch (lkI hd).1 b hb).1
        exact ⟨by omega, fun hi => hi.2.2 d ch (lkI hd).1 hb⟩
    · rw [hF1d e] at hb
      have := (hM.own d ch (lkC hd) b hb).1
      exact ⟨by omega, fun hi => hi.2.2 d ch (lkC hd) hb⟩
  · intro d d' ch ch' b hd hd' hne hb hb'
    have key : ∀ {d ch b}, lookB Bc d = some ch → F d b → ¬ (b = l ∨ ∃ d ch, lookB (BI x0) d = some ch ∧ F d b) := fun {e1 c1 b1} k1 k2 hx => by
      rcases hx with hx | ⟨d2, ch2, k3, k4⟩
      · have := (hM.own e1 c1 (lkC k1) _ k2).1; omega
      · exact hM.disj e1 d2 c1 ch2 b1 (lkC k1) (lkI k3).1 (fun e => by rw [e, (lkI k3).2] at k1; cases k1) k2 k4
    rcases hcase hd with ⟨e, _⟩ | ⟨e, hd⟩ <;> rcases hcase hd' with ⟨e', _⟩ | ⟨e', hd'⟩
    · exact hne (e.trans e'.symm)
    · rw [e, hF1c] at hb
      rw [hF1d e'] at hb'
      exact key hd' hb' hb
    · rw [hF1d e] at hb
      rw [e', hF1c] at hb'
      exact key hd hb hb'
    · rw [hF1d e] at hb
      rw [hF1d e'] at hb'
      exact hM.disj d d' ch ch' b (lkC hd) (lkC hd') hne hb hb'
  · intro i v x hv hx
    match i with
    | 0 =>
      simp only [List.getElem?_cons_zero, Option.some.injEq] at hv hx
      subst hv hx
      rfl
    | i + 1 => exact DenV.mono hE1 v x (fun _ _ => rfl) (hcv2 i v x (by simpa using hv) (by simpa using hx))
  rintro e w2 ⟨x, ρ', F', rfl, hfr, hρ, I', he1, he2, hH', hO, hDj, -⟩
  have hJ : rngR ρ kp Ie w1 l rec c (BI xN) I' (F' c) w2 (ρ' c) := hH' c _ look1
  obtain ⟨h0, hl, ρi, G, q1, q1', q2, q3, q3', q4⟩ := hJ
  have hll := lt_of_heap hl
  obtain ⟨w4, hw4⟩ : ∃ w4, w4 = w2.putObj l (.loop { rec with state := .exhausted }) := ⟨_, rfl⟩
  have hrun : (Instr.endLoop l).run P w2 = .ok none w4 := by
    have h1 := run_endLoop (P := P) hl (by rw [hrec]; simp)
    have h2 : rec.pending = none := by rw [hrec]
    rw [hw4, h1, h2]
  refine ⟨none, w4, hrun, ?_⟩
  show Qs .normal { a with defers := [markD w.heap.size] ++ a.defers } w4
  have hsz4 : w4.heap.size = w2.heap.size := by rw [hw4, World.putObj_size]
  have hoth4 : ∀ b, b ≠ l → w4.heap[b]? = w2.heap[b]? := fun b hb => by rw [hw4]; exact World.putObj_heap_other hb
  have hos4 : w4.os = w2.os ∧ w4.tape = w2.tape ∧ w4.output = w2.output := by rw [hw4]; exact ⟨rfl, rfl, rfl⟩
  have z12 := hfr.size
  have hFl : ∀ {b}, F' c b → b < w2.heap.size ∧ ¬ I' b ∧ (b = l ∨ (∃ d ch, lookB (Bc ++ BI x0) d = some ch ∧ F d b) ∨ w1.heap.size ≤ b) := fun {b} hb => by
    obtain ⟨r1, r2, r3⟩ := hO c _ look1 b hb
    refine ⟨r1, r2, ?_⟩
    rcases r3 with ⟨d, ch, hd, hf⟩ | r3
    · rcases hcase hd with ⟨rfl, rfl⟩ | ⟨e, hd⟩
      · rw [hF1c] at hf
        exact hf.imp id fun ⟨d, ch, hd, hf⟩ => .inl ⟨d, ch, (lkI hd).1, hf⟩
      · rw [hF1d e] at hf
        exact .inr (.inl ⟨d, ch, lkC hd, hf⟩)
    · exact .inr (.inr r3)
  have hlI : ¬ I' l := (hFl ((q4 l).2 (.inl rfl))).2.1
  have hori2 : ∀ {b}, ((∃ d ch, lookB (Bc ++ BI x0) d = some ch ∧ F d b) ∨ w1.heap.size ≤ b) → (C.F0 b ∨ C.w0.heap.size ≤ b ∧ b ∉ w.heap.size :: C.ds) := fun {b} h => by
    rcases h with ⟨d, ch, hd, hf⟩ | h
    · obtain ⟨r1, r2⟩ := hM.own d ch hd b hf
      exact r2.imp id fun x => ⟨x.1, fun hm => (List.mem_cons.1 hm).elim (fun e => by omega) x.2⟩
    · have := hM.fresh (b := b) (by omega)
      exact .inr ⟨this.1, fun hm => (List.mem_cons.1 hm).elim (fun e => by omega) this.2⟩
  have hori : ∀ {b}, (Ie b ∨ (∃ d ch, lookB (Bc ++ BI x0) d = some ch ∧ F d b) ∨ w1.heap.size ≤ b) → (C.I0 b ∨ C.F0 b ∨ C.w0.heap.size ≤ b ∧ b ∉ w.heap.size :: C.ds) := fun {b} h => by
    rcases h with h | h
    · have h1 := h.1
      exact h.2.1.imp id fun x => x.imp id fun x => ⟨x.1, fun hm => (List.mem_cons.1 hm).elim (fun e => by omega) x.2⟩
    · exact .inr (hori2 h)
  have hE4 : Ext I' w2 (Imm (C.at (w.heap.size :: C.ds)) (BI xN) G w4) w4 := fun b hb => by
    have hne : b ≠ l := fun e => hlI (e ▸ hb)
    obtain ⟨r1, r2⟩ := he2 b hb
    refine ⟨⟨by rw [hsz4]; exact r1, hori ?_, fun d ch hd hg => (hFl ((q4 b).2 (.inr ⟨d, ch, hd, hg⟩))).2.1 hb⟩, hoth4 b hne⟩
    rcases r2 with r2 | ⟨d, ch, hd, hf⟩ | r2
    · exact .inl r2
    · rcases hcase hd with ⟨rfl, rfl⟩ | ⟨e, hd⟩
      · rw [hF1c] at hf
        rcases hf with hf | ⟨d, ch, hd, hf⟩
        · exact absurd hf hne
        · exact .inr (.inl ⟨d, ch, (lkI hd).1, hf⟩)
      · rw [hF1d e] at hf
        exact .inr (.inl ⟨d, ch, lkC hd, hf⟩)
    · exact .inr (.inr r2)
  refine hq .nrm KI (BI xN) (w.heap.size :: C.ds) (fun h => by rw [hid] at h; cases h) hQ _ _ ⟨hn, ?_, ρi, G, ⟨?_, ?_, ?_, q3, ?_, ?_, hM.marks.2.1, ?_⟩, ?_⟩
  · show [markD w.heap.size] ++ a.defers = List.map markD (w.heap.size :: C.ds)
    rw [hd]; rfl
  · refine (hM.fr.trans (S' := fun b => b = l ∨ ∃ d ch, lookB (Bc ++ BI x0) d = some ch ∧ F d b) ?_ fun b hb h => ?_)
    · have f1 : Fr (fun b => b = l ∨ ∃ d ch, lookB (Bc ++ BI x0) d = some ch ∧ F d b) w w1 := Fr.of_below hB1
      have f4 : Fr (fun b => b = l) w2 w4 := ⟨hos4.1, hos4.2.1, hos4.2.2, Nat.le_of_eq hsz4.symm, fun b _ hb => hoth4 b hb⟩
      refine (f1.trans hfr ?_).trans f4 fun b _ hb => .inl hb
      rintro b _ ⟨d, ch, hd, hf⟩
      rcases hcase hd with ⟨rfl, rfl⟩ | ⟨e, hd⟩
      · rw [hF1c] at hf
        exact hf.imp id fun ⟨d, ch, hd, hf⟩ => ⟨d, ch, (lkI hd).1, hf⟩
      · rw [hF1d e] at hf
        exact .inr ⟨d, ch, lkC hd, hf⟩
    · have z0 := hM.fr.size
      rcases h with h | ⟨d, ch, hd, hf⟩
      · omega
      · rcases (hM.own d ch hd b hf).2 with h | h
        · exact h
        · have := h.1; omega
  · exact fun d ch hd => Holds.stable hE4 (fun b hb => hoth4 b (fun e => q3' d ch hd (e ▸ hb))) (Nat.le_of_eq hsz4.symm) ch (fun _ _ => rfl) (q2 d ch hd)
  · intro d ch hd b hb
    obtain ⟨r1, r2, r3⟩ := hFl ((q4 b).2 (.inr ⟨d, ch, hd, hb⟩))
    have hne : b ≠ l := fun e => q3' d ch hd (e ▸ hb)
    exact ⟨by rw [hsz4]; exact r1, hori2 (r3.resolve_left hne)⟩
  · exact fun d hd => (q1' d (hids d hd)).trans (hM.keep d hd)
  · exact List.nodup_cons.2 ⟨fun h => by have := (hM.marks.2.2 _ h).1; omega, hM.marks.1⟩
  · intro D hD
    have hDl : D ≠ l ∧ D < w1.heap.size ∧ w1.heap[D]? = some (.deferred (some [])) ∧ C.w0.heap.size ≤ D := by
      rcases List.mem_cons.1 hD with rfl | hD
      · exact ⟨by omega, by omega, hD1, hM.fr.size⟩
      · obtain ⟨r1, r2, r3⟩ := hM.marks.2.2 D hD
        exact ⟨by omega, by omega, (hB1.block D r1).trans r2, r3⟩
    obtain ⟨s1, s2, s3, s4⟩ := hDl
    have hnf : ¬ ∃ d ch, lookB (Bc ++ [(c, Ch.obj (J x0))]) d = some ch ∧ F1 d D := by
      rintro ⟨d, ch, hd, hf⟩
      have h5 : ∃ d ch, lookB (Bc ++ BI x0) d = some ch ∧ F d D := by
        rcases hcase hd with ⟨rfl, rfl⟩ | ⟨e, hd⟩
        · rw [hF1c] at hf
          rcases hf with hf | ⟨d, ch, hd, hf⟩
          · exact absurd hf s1
          · exact ⟨d, ch, (lkI hd).1, hf⟩
        · rw [hF1d e] at hf
          exact ⟨d, ch, lkC hd, hf⟩
      obtain ⟨d, ch, hd, hf⟩ := h5
      obtain ⟨r1, r2⟩ := hM.own d ch hd D hf
      rcases List.mem_cons.1 hD with rfl | hD
      · omega
      · rcases r2 with r2 | r2
        · have := hM.marks.2.1 D (.inr r2); omega
        · exact r2.2 hD
    exact ⟨by rw [hsz4]; omega, (hoth4 D s1).trans ((hfr.block D s2 hnf).trans s3), s4⟩
  · intro t
    exact DenV.mono (he1.trans hE4) _ _ (fun j hj => q1' j (SV.among_has (amongK_get hk2 t) hj)) (hsl t)
end
end Go.Proofs.YtolaecebfkdbcaaGreat
