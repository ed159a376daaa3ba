/-
  Rows of bytes by numbers: a map to slices, each row its own, as one object.
-/
import Derived.Test.YtolaecebfkdbcaaGreatCd
import Derived.Test.YtolaecebfkdbcaaGreatRg
import Derived.Test.YtolaecebfkdbcaaGreatMg
set_option linter.unusedVariables false
set_option linter.unusedSimpArgs false
set_option maxRecDepth 10000
namespace Go.Proofs.YtolaecebfkdbcaaGreat
open Go.RowKit Go.Proofs
section
variable {P : Program} {tt : Tr} {N : Nat} {ids : List Nat} {o : Oper} {K : KL} {B : BL} {C : Ctx} {ρ : Nat → Pl} {F : Nat → Nat → Prop} {w w' : World}
/-- A block falls apart into two. -/
theorem Mem.split (h : Mem ids C B ρ F w) {c d : Nat} {ch0 ch1 ch2 : Ch} (hc : lookB B c = some ch0) (hf : freshB ids K B d = true) (pl : Pl) (F1 F2 : Nat → Prop) (h1 : ∀ b, F1 b → F c b) (h2 : ∀ b, F2 b → F c b) (hdj : ∀ b, F1 b → ¬ F2 b)
    (H1 : ∀ I, Ext (Imm C B F w) w I w → Holds (upd ρ d pl) I F1 w (ρ c) ch1) (H2 : ∀ I, Ext (Imm C B F w) w I w → Holds (upd ρ d pl) I F2 w pl ch2) :
    Mem ids C ((d, ch2) :: (c, ch1) :: B) (upd ρ d pl) (upd (upd F c F1) d F2) w ∧ Ext (Imm C B F w) w (Imm C ((d, ch2) :: (c, ch1) :: B) (upd (upd F c F1) d F2) w) w := by
  obtain ⟨f1, f2, f3, f4⟩ := fresh_of hf
  have hcd : c ≠ d := fun e => by rw [← e, hc] at f2; cases f2
  have look2 : ∀ j ch, lookB ((d, ch2) :: (c, ch1) :: B) j = some ch → (j = c ∨ j = d) → (j = c ∧ ch = ch1) ∨ (j = d ∧ ch = ch2) := fun j ch hj hm => by
    rw [lookB_cons] at hj
    split at hj
    · rename_i e; injection hj with hj; exact .inr ⟨e.symm, hj.symm⟩
    · rename_i e
      rw [lookB_cons] at hj
      split at hj
      · rename_i e; injection hj with hj; exact .inl ⟨e.symm, hj.symm⟩
      · rename_i e2
        rcases hm with hm | hm
        · exact absurd hm.symm e2
        · exact absurd hm.symm e
  have eF1 : upd (upd F c F1) d F2 c = F1 := by rw [upd_other _ _ hcd, upd_same]
  have eF2 : upd (upd F c F1) d F2 d = F2 := by rw [upd_same]
  refine h.step (fun j => j = c ∨ j = d) (fun j => j = d) (Fr.refl _ _) (fun j ch hj hm => ?_) (fun j hj => upd_other _ _ hj) (fun j hj => ?_) (fun j hj e => f4 (e ▸ hj)) (fun j hj => .inr hj) (fun j ch hj _ k hk e => ?_) (fun j ch hj hm hE => ?_) (fun j ch hj hm b hb => ?_) (fun j j' ch ch' b hj hj' hm hm' hne hb hb' => ?_)
  · rw [lookB_cons, if_neg (fun e => hm (.inr e.symm)), lookB_cons, if_neg (fun e => hm (.inl e.symm))] at hj
    exact hj
  · rw [upd_other _ _ (fun e => hj (.inr e)), upd_other _ _ (fun e => hj (.inl e))]
  · subst e
    rw [f3 j ch hj] at hk
    cases hk
  · rcases look2 j ch hj hm with ⟨rfl, rfl⟩ | ⟨rfl, rfl⟩
    · rw [eF1, upd_other _ _ hcd]; exact H1 _ hE
    · rw [eF2, upd_same]; exact H2 _ hE
  · have : F c b := by
      rcases look2 j ch hj hm with ⟨rfl, rfl⟩ | ⟨rfl, rfl⟩
      · rw [eF1] at hb; exact h1 b hb
      · rw [eF2] at hb; exact h2 b hb
    exact ⟨(h.own c _ hc b this).1, .inl ⟨c, _, hc, .inl rfl, this⟩⟩
  · rcases look2 j ch hj hm with ⟨rfl, rfl⟩ | ⟨rfl, rfl⟩ <;> rcases look2 j' ch' hj' hm' with ⟨rfl, rfl⟩ | ⟨rfl, rfl⟩
    · exact hne rfl
    · rw [eF1] at hb; rw [eF2] at hb'; exact hdj b hb hb'
    · rw [eF2] at hb; rw [eF1] at hb'; exact hdj b hb' hb
    · exact hne rfl
/-- Two blocks become one. -/
theorem Mem.join (h : Mem ids C B ρ F w) {c d : Nat} {ch0 ch1 ch : Ch} (hc : lookB B c = some ch0) (hd : lookB B d = some ch1) (hne : c ≠ d) (G : Nat → Prop) (hG : ∀ b, G b → F c b ∨ F d b) (hfr : Fr (fun b => F c b ∨ F d b) w w')
    (hH : ∀ I, Ext (Imm C B F w) w I w' → Holds ρ I G w' (ρ c) ch) :
    Mem ids C ((c, ch) :: dropB B d) ρ (upd F c G) w' ∧ Ext (Imm C B F w) w (Imm C ((c, ch) :: dropB B d) (upd F c G) w') w' := by
  have look2 : ∀ j ch', lookB ((c, ch) :: dropB B d) j = some ch' → (j = c ∨ j = d) → j = c ∧ ch' = ch := fun j ch' hj hm => by
    rw [lookB_cons] at hj
    split at hj
    · rename_i e; injection hj with hj; exact ⟨e.symm, hj.symm⟩
    · rename_i e
      rcases hm with hm | hm
      · exact absurd hm.symm e
      · rw [hm, lookB_dropB, if_pos rfl] at hj; cases hj
  refine h.step (fun j => j = c ∨ j = d) (fun _ => False) (hfr.mono fun b _ hb => ?_) (fun j ch' hj hm => ?_) (fun _ _ => rfl) (fun j hm => upd_other _ _ (fun e => hm (.inl e))) (fun _ _ h => h) (fun _ h => h.elim) (fun _ _ _ _ _ _ h => h) (fun j ch' hj hm hE => ?_) (fun j ch' hj hm b hb => ?_) (fun j j' c1 c2 b hj hj' hm hm' hn => ?_)
  · rcases hb with hb | hb
    · exact ⟨c, _, hc, .inl rfl, hb⟩
    · exact ⟨d, _, hd, .inr rfl, hb⟩
  · rw [lookB_cons, if_neg (fun e => hm (.inl e.symm)), lookB_dropB, if_neg (fun e => hm (.inr e.symm))] at hj
    exact hj
  · obtain ⟨rfl, rfl⟩ := look2 j ch' hj hm
    rw [upd_same]
    exact hH _ hE
  · obtain ⟨rfl, rfl⟩ := look2 j ch' hj hm
    rw [upd_same] at hb
    rcases hG b hb with hb | hb
    · exact ⟨Nat.lt_of_lt_of_le (h.own j _ hc b hb).1 hfr.size, .inl ⟨j, _, hc, .inl rfl, hb⟩⟩
    · exact ⟨Nat.lt_of_lt_of_le (h.own d _ hd b hb).1 hfr.size, .inl ⟨d, _, hd, .inr rfl, hb⟩⟩
  · exact absurd ((look2 j c1 hj hm).1.trans (look2 j' c2 hj' hm').1.symm) hn
/-- A block turns, and gives something up. -/
theorem Mem.turnG (h : Mem ids C B ρ F w) {c : Nat} {ch0 ch : Ch} (hc : lookB B c = some ch0) (G : Nat → Prop) (hG : ∀ b, G b → F c b) (hfr : Fr (F c) w w') (hH : ∀ I, Ext (Imm C B F w) w I w' → Holds ρ I G w' (ρ c) ch) :
    Mem ids C ((c, ch) :: B) ρ (upd F c G) w' ∧ Ext (Imm C B F w) w (Imm C ((c, ch) :: B) (upd F c G) w') w' := by
  have look2 : ∀ j ch', lookB ((c, ch) :: B) j = some ch' → j = c → ch' = ch := fun j ch' hj hm => by
    rw [lookB_cons, if_pos hm.symm] at hj
    injection hj with hj; exact hj.symm
  refine h.step (fun j => j = c) (fun _ => False) (hfr.mono fun b _ hb => ⟨c, _, hc, rfl, hb⟩) (fun j ch' hj hm => ?_) (fun _ _ => rfl) (fun j hm => upd_other _ _ hm) (fun _ _ h => h) (fun _ h => h.elim) (fun _ _ _ _ _ _ h => h) (fun j ch' hj hm hE => ?_) (fun j ch' hj hm b hb => ?_) (fun j j' c1 c2 b hj hj' hm hm' hn => absurd (hm.trans hm'.symm) hn)
  · rw [lookB_cons, if_neg (fun e => hm e.symm)] at hj
    exact hj
  · have e := look2 j ch' hj hm
    subst hm e
    rw [upd_same]
    exact hH _ hE
  · subst hm
    rw [upd_same] at hb
    exact ⟨Nat.lt_of_lt_of_le (h.own _ _ hc b (hG b hb)).1 hfr.size, .inl ⟨_, _, hc, rfl, hG b hb⟩⟩
end
/-! ### rows by numbers -/
abbrev FMap := Int → Option (List UInt8)
def fset (f : FMap) (k : Int) (xs : List UInt8) : FMap := fun j => if j = k then some xs else f j
def fdel (f : FMap) (k : Int) : FMap := fun j => if j = k then none else f j
def fnone : FMap := fun _ => none
/-- A row of bytes of one's own. -/
def rowH (I F : Nat → Prop) (w : World) (p : Pl) (xs : List UInt8) : Prop := Holds (fun _ => p) I F w p (.row 5 .u8 xs)
theorem rowH.congr {I F F' : Nat → Prop} {w : World} {p : Pl} {xs : List UInt8} (h : rowH I F w p xs) (e : ∀ b, F' b ↔ F b) : rowH I F' w p xs :=
  ⟨fun b => (e b).trans (h.1 b), h.2⟩
theorem hdl_of {I F : Nat → Prop} {w : World} {p : Pl} {xs : List UInt8} (h : rowH I F w p xs) : ∃ x : El .hdl, p.hdr = hdlV x := by
  obtain ⟨_, _, cs, ⟨_, h⟩, _⟩ := h
  rcases h with ⟨h, _⟩ | ⟨g, cap, cur, h, _⟩
  · exact ⟨none, h⟩
  · exact ⟨some (g, _, cap), h⟩
/-- The rows of a map's slices; those of hs are elsewhere now. -/
structure RowsG (hs : Int → Option Pl) (f : FMap) (es : List (El uI × El .hdl)) (G : Int → Nat → Prop) (I : Nat → Prop) (w : World) : Prop where
  nd : KNd es
  none_ : ∀ k : Int, mget (ku := uI) (vu := .hdl) es k = none → f k = none ∧ hs k = none ∧ ∀ b, ¬ G k b
  some_ : ∀ (k : Int) h, mget (ku := uI) (vu := .hdl) es k = some h → hs k = none → ∃ xs p, f k = some xs ∧ p.hdr = hdlV h ∧ rowH I (G k) w p xs
  away : ∀ (k : Int) h q, mget (ku := uI) (vu := .hdl) es k = some h → hs k = some q → q.hdr = hdlV h ∧ ∀ b, ¬ G k b
  disj : ∀ (j k : Int) b, j ≠ k → G j b → ¬ G k b
theorem RowsG.stable {hs : Int → Option Pl} {f : FMap} {es : List (El uI × El .hdl)} {G : Int → Nat → Prop} {I I' : Nat → Prop} {w w' : World} (h : RowsG hs f es G I w) (he : Ext I w I' w') (hF : ∀ k b, G k b → w'.heap[b]? = w.heap[b]?) (hz : w.heap.size ≤ w'.heap.size) : RowsG hs f es G I' w' :=
  ⟨h.nd, h.none_, fun k x h1 h2 => let ⟨xs, p, a1, a2, a3⟩ := h.some_ k x h1 h2; ⟨xs, p, a1, a2, Holds.stable he (fun b hb => hF k b hb) hz _ (fun _ _ => rfl) a3⟩, h.away, h.disj⟩
def dataR (hs : Int → Option Pl) (f : FMap) (I F : Nat → Prop) (w : World) (p : Pl) : Prop :=
  ∃ es G, RowsG hs f es G I w ∧ (∀ b, F b ↔ b = p.blk ∨ ∃ k, G k b) ∧ (∀ k, ¬ G k p.blk) ∧ ∃ ents clock, w.heap[p.blk]? = some (.map (List.toArray ents) clock) ∧ MapU I w uI .hdl es ents ∧ Births ents clock
def dataHO (hs : Int → Option Pl) (f : FMap) : Ob where
  R := dataR hs f
  stable := fun I F w I' w' p ⟨es, G, h1, h2, h3, ents, clock, h4, h5, h6⟩ he hF hz =>
    ⟨es, G, h1.stable he (fun k b hb => hF b ((h2 b).2 (.inr ⟨k, hb⟩))) hz, h2, h3, ents, clock, (hF _ ((h2 _).2 (.inl rfl))).trans h4, h5.mono he, h6⟩
def dataO (f : FMap) : Ob := dataHO (fun _ => none) f
def hole1 (k : Int) (q : Pl) : Int → Option Pl := fun j => if j = k then some q else none
def dataH (f : FMap) (k : Int) : Pl → Ob := fun q => dataHO (hole1 k q) f
/-- A row is taken out. -/
theorem dataR.out {f : FMap} {k : Int} {xs : List UInt8} {I F : Nat → Prop} {w : World} {p : Pl} (hf : f k = some xs) (h : (dataO f).R I F w p) :
    ∃ (F1 F2 : Nat → Prop) (q : Pl) (es : List (El uI × El .hdl)) (x : El .hdl), (∀ b, F1 b → F b) ∧ (∀ b, F2 b → F b) ∧ (∀ b, F1 b → ¬ F2 b) ∧ q.hdr = hdlV x ∧ mget (ku := uI) (vu := .hdl) es k = some x ∧ (∃ ents clock, w.heap[p.blk]? = some (.map (List.toArray ents) clock) ∧ MapU I w uI .hdl es ents) ∧ rowH I F2 w q xs ∧ (dataH f k q).R I F1 w p := by
  obtain ⟨es, G, h1, h2, h3, ents, clock, h4, h5, h6⟩ := h
  cases e : mget (ku := uI) (vu := .hdl) es k with
  | none => rw [(h1.none_ k e).1] at hf; cases hf
  | some x =>
    obtain ⟨ys, q, a1, a2, a3⟩ := h1.some_ k x e rfl
    rw [hf] at a1
    injection a1 with a1
    subst a1
    refine ⟨fun b => b = p.blk ∨ ∃ j, j ≠ k ∧ G j b, G k, q, es, x, fun b hb => (h2 b).2 (hb.imp id fun ⟨j, _, hj⟩ => ⟨j, hj⟩), fun b hb => (h2 b).2 (.inr ⟨k, hb⟩), fun b hb hk => ?_, a2, e, ⟨ents, clock, h4, h5⟩, a3, ?_⟩
    · rcases hb with rfl | ⟨j, hj, hb⟩
      · exact h3 k hk
      · exact h1.disj j k b hj hb hk
    · refine ⟨es, fun j b => j ≠ k ∧ G j b, ⟨h1.nd, fun j hj => ?_, fun j y hj hh => ?_, fun j y q' hj hh => ?_, fun i j b hij a b => h1.disj i j _ hij a.2 b.2⟩, fun b => Iff.rfl, fun j hj => h3 j hj.2, ents, clock, h4, h5, h6⟩
      · obtain ⟨b1, _, b3⟩ := h1.none_ j hj
        have : j ≠ k := fun e' => by rw [e', e] at hj; cases hj
        exact ⟨b1, if_neg this, fun b hb => b3 b hb.2⟩
      · have hne : j ≠ k := fun e' => by rw [show hole1 k q j = some q from if_pos e'] at hh; cases hh
        obtain ⟨ys, r, b1, b2, b3⟩ := h1.some_ j y hj rfl
        exact ⟨ys, r, b1, b2, b3.congr fun b => ⟨fun h => h.2, fun h => ⟨hne, h⟩⟩⟩
      · simp only [hole1] at hh
        split at hh
        · rename_i e'
          injection hh with hh
          subst e' hh
          rw [e] at hj
          injection hj with hj
          subst hj
          exact ⟨a2, fun b hb => hb.1 rfl⟩
        · cases hh
/-- And put back. -/
theorem dataR.in_ {f : FMap} {k : Int} {xs : List UInt8} {I F1 F2 : Nat → Prop} {w : World} {p q : Pl} (h : (dataH f k q).R I F1 w p) (hr : rowH I F2 w q xs) (hd : ∀ b, F1 b → ¬ F2 b) (hk : ∃ ys, f k = some ys) : (dataO (fset f k xs)).R I (fun b => F1 b ∨ F2 b) w p := by
  obtain ⟨es, G, h1, h2, h3, ents, clock, h4, h5, h6⟩ := h
  obtain ⟨ys, hk⟩ := hk
  have hkk : hole1 k q k = some q := if_pos rfl
  cases e : mget (ku := uI) (vu := .hdl) es k with
  | none => rw [(h1.none_ k e).1] at hk; cases hk
  | some x =>
    obtain ⟨a1, a2⟩ := h1.away k x q e hkk
    refine ⟨es, fun j b => if j = k then F2 b else G j b, ⟨h1.nd, fun j hj => ?_, fun j y hj _ => ?_, fun _ _ _ _ hh => (by cases hh), fun i j b hij ha hb => ?_⟩, fun b => ?_, fun j hj => ?_, ents, clock, h4, h5, h6⟩
    · have hne : j ≠ k := fun e' => by rw [e', e] at hj; cases hj
      obtain ⟨b1, _, b3⟩ := h1.none_ j hj
      exact ⟨by unfold fset; rw [if_neg hne]; exact b1, rfl, fun b hb => by rw [if_neg hne] at hb; exact b3 b hb⟩
    · by_cases hne : j = k
      · subst hne
        rw [e] at hj
        injection hj with hj
        subst hj
        exact ⟨xs, q, if_pos rfl, a1, hr.congr fun b => by rw [if_pos rfl]⟩
      · obtain ⟨zs, r, b1, b2, b3⟩ := h1.some_ j y hj (if_neg hne)
        exact ⟨zs, r, (if_neg hne).trans b1, b2, b3.congr fun b => by rw [if_neg hne]⟩
    · by_cases hi : i = k
      · rw [if_pos hi] at ha
        have hj : j ≠ k := fun e' => hij (hi.trans e'.symm)
        rw [if_neg hj] at hb
        exact hd b ((h2 b).2 (.inr ⟨j, hb⟩)) ha
      · rw [if_neg hi] at ha
        by_cases hj : j = k
        · rw [if_pos hj] at hb
          exact hd b ((h2 b).2 (.inr ⟨i, ha⟩)) hb
        · rw [if_neg hj] at hb
          exact h1.disj i j b hij ha hb
    · show (F1 b ∨ F2 b) ↔ (b = p.blk ∨ ∃ j, (if j = k then F2 b else G j b))
      rw [h2]
      constructor
      · rintro ((h | ⟨j, h⟩) | h)
        · exact .inl h
        · refine .inr ⟨j, ?_⟩
          by_cases hj : j = k
          · subst hj; exact absurd h (a2 b)
          · rw [if_neg hj]; exact h
        · exact .inr ⟨k, by rw [if_pos rfl]; exact h⟩
      · rintro (h | ⟨j, h⟩)
        · exact .inl (.inl h)
        · by_cases hj : j = k
          · rw [if_pos hj] at h; exact .inr h
          · rw [if_neg hj] at h; exact .inl (.inr ⟨j, h⟩)
    · replace hj : (if j = k then F2 p.blk else G j p.blk) := hj
      by_cases hj' : j = k
      · rw [if_pos hj'] at hj
        exact hd _ ((h2 _).2 (.inl rfl)) hj
      · rw [if_neg hj'] at hj
        exact h3 j hj
section
variable {P : Program} {tt : Tr} {ids : List Nat} {K : KL} {B : BL}
/-- A row that is there: read, it is laid open. -/
theorem opOK_dataGet {o : Oper} {T kt et : TypeId} {x i : Operand} {c d : Nat} {f : FMap} {k : Int} {xs : List UInt8} (ho : o.op = .lookup T x i false) (hT : P.underlying T = some (.map kt et)) {dk : TypeDesc} (hkt : P.underlying kt = some dk) (hdk : keyD uI dk = true) {inf : TypeInfo} (hi : P.info? et = some inf) (hz : inf.zero = some (.slice none 0 0))
    (hx : opv K x = .c (.one (.mp c))) (hk : opv K i = .c (.one (.d (.int .i64 k)))) (hc : lookB B c = some (.obj (dataO f))) (hf : f k = some xs) (N : Nat) : OpOK P N ids o K B (.c (.one (.own d))) ⟨[c], [d], [(c, some (.dep d (dataH f k))), (d, some (.row 5 .u8 xs))]⟩ := by
  have m1 : x ∈ o.op.operands := by rw [ho]; simp [Op.operands]
  have m2 : i ∈ o.op.operands := by rw [ho]; simp [Op.operands]
  rintro K' B' g1 g2 g3 C a w ⟨hn, hdf, ρ, F, hM, hS⟩ hlt Kn Q hK
  have hc' := (g2 c (by simp)).trans hc
  have hfr := g3 d (by simp)
  obtain ⟨f1, f2, f3, f4⟩ := fresh_of hfr
  have hcd : c ≠ d := fun e => by rw [← e, hc'] at f2; cases f2
  obtain ⟨F1, F2, q, es, y, h1, h2, h3, h4, h5, ⟨ents, clock, h6, h7⟩, h8, h9⟩ := dataR.out hf (hM.holds c _ hc')
  have e1 := hS.mp ((g1 x m1).trans hx)
  have e2 : a.eval i = keyV uI k := hS.int ((g1 i m2).trans hk)
  have hzv : (zeroValue et).run P w = .ok (.slice none 0 0) w := by simp [zeroValue, typeInfo, hi, hz]
  obtain ⟨v, hr, hv⟩ := lookup_run (P := P) (vu := .hdl) hT hkt hdk h6 h7 hzv ⟨rfl, ⟨fun _ => rfl, fun h => by cases h⟩, rfl⟩ k false
  have hv2 : v = hdlV y := by
    have h := denE_one (ρ := ρ) rfl hv
    rw [h5] at h
    exact h
  have hx : (execOp a.eval o).run P w = .ok (.value v) w := by simp only [execOp, ho, Sem.run_bind, e1, e2, hr, Result.andThen_ok, Sem.run_pure]; rfl
  unfold Oper.wp
  rw [hx, Oper.upon_value]
  obtain ⟨hM', hE⟩ := hM.split (K := K') (ch1 := .dep d (dataH f k)) (ch2 := .row 5 .u8 xs) hc' hfr q F1 F2 h1 h2 h3
    (fun I hI => by
      show (dataH f k (upd ρ d q d)).R I F1 w (ρ c)
      rw [upd_same]
      exact (dataH f k q).stable _ _ _ _ _ _ h9 hI (fun _ _ => rfl) (Nat.le_refl _))
    (fun I hI => Holds.stable hI (fun _ _ => rfl) (Nat.le_refl _) _ (fun _ h => by cases h) h8)
  refine hK _ _ ⟨put_size.trans hn, put_defers.trans hdf, _, _, hM', (hS.mono hE fun s e he => upd_other _ _ (fun e' => by subst e'; rw [f1 s] at he; cases he)).putO (fun e he => by rw [hn]; exact hlt e he) ?_⟩
  show v = (upd ρ d q d).hdr
  rw [upd_same, hv2, h4]
/-- It is closed again. -/
theorem Le.dataIn (c d : Nat) {f f' : FMap} {k : Int} {xs : List UInt8} (hf' : fset f k xs = f') (hc : lookB B c = some (.dep d (dataH f k))) (hd : lookB B d = some (.row 5 .u8 xs)) (hne : c ≠ d) (hk : (f k).isSome = true) : Le ids K B K ((c, .obj (dataO f')) :: dropB B d) := by
  subst hf'
  rintro N C a w ⟨hn, hdf, ρ, F, hM, hS⟩
  have h1 : (dataH f k (ρ d)).R (Imm C B F w) (F c) w (ρ c) := hM.holds c _ hc
  have h2 : rowH (Imm C B F w) (F d) w (ρ d) xs := hM.holds d _ hd
  have hk : ∃ ys, f k = some ys := by
    cases e : f k with
    | none => rw [e] at hk; cases hk
    | some ys => exact ⟨ys, rfl⟩
  obtain ⟨hM', hE⟩ := hM.join (w' := w) (ch := .obj (dataO (fset f k xs))) hc hd hne (fun b => F c b ∨ F d b) (fun _ h => h) (Fr.refl _ _) fun I hI =>
    (dataO (fset f k xs)).stable _ _ _ _ _ _ (dataR.in_ h1 h2 (fun b hb hb' => hM.disj c d _ _ b hc hd hne hb hb') hk) hI (fun _ _ => rfl) (Nat.le_refl _)
  exact ⟨hn, hdf, ρ, _, hM', hS.mono hE fun _ _ _ => rfl⟩
/-- A row of one's own is laid in, where none is. -/
theorem opOK_dataPut {o : Oper} {T kt et : TypeId} {x i v : Operand} {c d : Nat} {f : FMap} {k : Int} {xs : List UInt8} (ho : o.op = .mapUpdate T x i v) (hT : P.underlying T = some (.map kt et)) {dk : TypeDesc} (hkt : P.underlying kt = some dk) (hdk : keyD uI dk = true)
    (hx : opv K x = .c (.one (.mp c))) (hk : opv K i = .c (.one (.d (.int .i64 k)))) (hv : opv K v = .c (.one (.own d))) (hc : lookB B c = some (.obj (dataO f))) (hd : lookB B d = some (.row 5 .u8 xs)) (hne : c ≠ d) (hf : f k = none) (N : Nat) :
    OpOK P N ids o K B .undef ⟨[c, d], [], [(d, none), (c, some (.obj (dataO (fset f k xs))))]⟩ := by
  have m1 : x ∈ o.op.operands := by rw [ho]; simp [Op.operands]
  have m2 : i ∈ o.op.operands := by rw [ho]; simp [Op.operands]
  have m3 : v ∈ o.op.operands := by rw [ho]; simp [Op.operands]
  rintro K' B' g1 g2 - C a w ⟨hn, hdf, ρ, F, hM, hS⟩ hlt Kn Q hK
  have hc' := (g2 c (by simp)).trans hc
  have hd' := (g2 d (by simp)).trans hd
  obtain ⟨es, G, h1, h2, h3, ents, clock, h4, h5, h6⟩ : (dataO f).R (Imm C B' F w) (F c) w (ρ c) := hM.holds c _ hc'
  have hrow : rowH (Imm C B' F w) (F d) w (ρ d) xs := hM.holds d _ hd'
  obtain ⟨y, hy⟩ := hdl_of hrow
  have e1 := hS.mp ((g1 x m1).trans hx)
  have e2 : a.eval i = keyV uI k := hS.int ((g1 i m2).trans hk)
  have e3 : a.eval v = (ρ d).hdr := hS.ev ((g1 v m3).trans hv)
  have e4 : DenE (Imm C B' F w) w .hdl y (a.eval v) := by
    rw [e3, hy]
    have hc1 : (hdlV y).cells = #[hdlV y] := by
      match y with
      | none => rfl
      | some (_, _, _) => rfl
    exact ⟨by rw [hc1]; rfl, ⟨fun _ => hc1, fun h => by cases h⟩, by rw [hc1]; rfl⟩
  obtain ⟨es', clock', hr, hm', hB'⟩ := update_run (P := P) hT hkt hdk h4 h5 h6 k e4
  have hlt2 := (Array.getElem?_eq_some_iff.1 h4).1
  have hdj : ∀ y, F c y → ¬ F d y := fun y hy hy' => hM.disj c d _ _ y hc' hd' hne hy hy'
  have hnone : mget (ku := uI) (vu := .hdl) es k = none := by
    cases e : mget (ku := uI) (vu := .hdl) es k with
    | none => rfl
    | some z =>
      obtain ⟨_, _, a1, _⟩ := h1.some_ k z e rfl
      rw [hf] at a1
      cases a1
  obtain ⟨p1, p2⟩ := mget_mput (ku := uI) (vu := .hdl) eqKey_int k y es
  have hfrB : ∀ z, z ≠ (ρ c).blk → ({ w with heap := w.heap.setIfInBounds (ρ c).blk (.map (List.toArray es') clock') } : World).heap[z]? = w.heap[z]? := fun z hz => Array.getElem?_setIfInBounds_ne (Ne.symm hz)
  have hxx : (execOp a.eval o).run P w = .ok .skip { w with heap := w.heap.setIfInBounds (ρ c).blk (.map (List.toArray es') clock') } := by simp only [execOp, ho, Sem.run_bind, e1, e2, hr, Result.andThen_ok, Sem.run_pure]
  unfold Oper.wp
  rw [hxx, Oper.upon_skip]
  obtain ⟨hM', hE⟩ := hM.join (ch := .obj (dataO (fset f k xs))) (w' := { w with heap := w.heap.setIfInBounds (ρ c).blk (.map (List.toArray es') clock') }) hc' hd' hne (fun b => F c b ∨ F d b) (fun _ h => h) (map_fr (S := fun b => F c b ∨ F d b) (.inl ((h2 _).2 (.inl rfl)))) fun I hI => by
    have hs1 := h1.stable hI (fun j b hb => hfrB b fun e => h3 j (e ▸ hb)) (by simp)
    have hs2 : rowH I (F d) { w with heap := w.heap.setIfInBounds (ρ c).blk (.map (List.toArray es') clock') } (ρ d) xs := Holds.stable hI (fun b hb => hfrB b fun e => hdj b (e ▸ (h2 _).2 (.inl rfl)) hb) (by simp) _ (fun _ h => by cases h) hrow
    refine ⟨mput (ku := uI) (vu := .hdl) es k y, fun j b => if j = k then F d b else G j b, ⟨KNd.put eqKey_int h1.nd, fun j hj => ?_, fun j z hj _ => ?_, fun _ _ _ _ hh => (by cases hh), fun i j b hij ha hb => ?_⟩, fun b => ?_, fun j hj => ?_, es', clock', by simp [hlt2], hm'.mono hI, hB'⟩
    · have hjk : j ≠ k := fun e => by rw [e, p1] at hj; cases hj
      rw [p2 j hjk] at hj
      obtain ⟨b1, _, b3⟩ := hs1.none_ j hj
      exact ⟨by unfold fset; rw [if_neg hjk]; exact b1, rfl, fun b hb => by rw [if_neg hjk] at hb; exact b3 b hb⟩
    · by_cases hjk : j = k
      · subst hjk
        rw [p1] at hj
        injection hj with hj
        subst hj
        exact ⟨xs, ρ d, if_pos rfl, hy, hs2.congr fun b => by rw [if_pos rfl]⟩
      · rw [p2 j hjk] at hj
        obtain ⟨zs, r, b1, b2, b3⟩ := hs1.some_ j z hj rfl
        exact ⟨zs, r, (if_neg hjk).trans b1, b2, b3.congr fun b => by rw [if_neg hjk]⟩
    · by_cases hi : i = k
      · rw [if_pos hi] at ha
        have hj : j ≠ k := fun e' => hij (hi.trans e'.symm)
        rw [if_neg hj] at hb
        exact hdj b ((h2 b).2 (.inr ⟨j, hb⟩)) ha
      · rw [if_neg hi] at ha
        by_cases hj : j = k
        · rw [if_pos hj] at hb
          exact hdj b ((h2 b).2 (.inr ⟨i, ha⟩)) hb
        · rw [if_neg hj] at hb
          exact h1.disj i j b hij ha hb
    · show (F c b ∨ F d b) ↔ (b = (ρ c).blk ∨ ∃ j, (if j = k then F d b else G j b))
      rw [h2]
      have hGk := (h1.none_ k hnone).2.2
      constructor
      · rintro ((h | ⟨j, h⟩) | h)
        · exact .inl h
        · refine .inr ⟨j, ?_⟩
          have hj : j ≠ k := fun e => hGk b (e ▸ h)
          rw [if_neg hj]; exact h
        · exact .inr ⟨k, by rw [if_pos rfl]; exact h⟩
      · rintro (h | ⟨j, h⟩)
        · exact .inl (.inl h)
        · by_cases hj : j = k
          · rw [if_pos hj] at h; exact .inr h
          · rw [if_neg hj] at h; exact .inl (.inr ⟨j, h⟩)
    · replace hj : (if j = k then F d (ρ c).blk else G j (ρ c).blk) := hj
      by_cases hj' : j = k
      · rw [if_pos hj'] at hj
        exact hdj _ ((h2 _).2 (.inl rfl)) hj
      · rw [if_neg hj'] at hj
        exact h3 j hj
  exact hK _ _ ⟨put_size.trans hn, put_defers.trans hdf, ρ, _, hM', (hS.mono hE fun _ _ _ => rfl).putO (fun e he => by rw [hn]; exact hlt e he) rfl⟩
/-- A row is given up. -/
theorem opOK_dataDel {o : Oper} {T T' kt et : TypeId} {x i : Operand} {c : Nat} {f : FMap} {k : Int} (ho : o.op = .call { callee := .builtin .delete, args := #[x, i], argTypes := #[T, T'] }) (hT : P.underlying T = some (.map kt et)) {dk : TypeDesc} (hkt : P.underlying kt = some dk) (hdk : keyD uI dk = true)
    (hx : opv K x = .c (.one (.mp c))) (hk : opv K i = .c (.one (.d (.int .i64 k)))) (hc : lookB B c = some (.obj (dataO f))) (N : Nat) :
    OpOK P N ids o K B (.tup []) ⟨[c], [], [(c, some (.obj (dataO (fdel f k))))]⟩ := by
  have m1 : x ∈ o.op.operands := by rw [ho]; simp [Op.operands, Call.operands]
  have m2 : i ∈ o.op.operands := by rw [ho]; simp [Op.operands, Call.operands]
  rintro K' B' g1 g2 - C a w ⟨hn, hdf, ρ, F, hM, hS⟩ hlt Kn Q hK
  have hc' := (g2 c (by simp)).trans hc
  obtain ⟨es, G, h1, h2, h3, ents, clock, h4, h5, h6⟩ : (dataO f).R (Imm C B' F w) (F c) w (ρ c) := hM.holds c _ hc'
  have e1 := hS.mp ((g1 x m1).trans hx)
  have e2 : a.eval i = keyV uI k := hS.int ((g1 i m2).trans hk)
  obtain ⟨es', hr, hm', hB'⟩ := delete_run (P := P) (ty := o.type) hT hkt hdk h4 h5 h6 k T'
  have hlt2 := (Array.getElem?_eq_some_iff.1 h4).1
  obtain ⟨p1, p2⟩ := mget_mdel (ku := uI) (vu := .hdl) eqKey_int k es h1.nd
  have hfrB : ∀ z, z ≠ (ρ c).blk → ({ w with heap := w.heap.setIfInBounds (ρ c).blk (.map (List.toArray es') clock) } : World).heap[z]? = w.heap[z]? := fun z hz => Array.getElem?_setIfInBounds_ne (Ne.symm hz)
  have hxx : (execOp a.eval o).run P w = .ok (.value (.tuple #[])) { w with heap := w.heap.setIfInBounds (ρ c).blk (.map (List.toArray es') clock) } := by simp [execOp, ho, resolve, invoke, builtin, e1, e2, hr]
  unfold Oper.wp
  rw [hxx, Oper.upon_value]
  obtain ⟨hM', hE⟩ := hM.turnG (ch := .obj (dataO (fdel f k))) (w' := { w with heap := w.heap.setIfInBounds (ρ c).blk (.map (List.toArray es') clock) }) hc' (fun b => b = (ρ c).blk ∨ ∃ j, j ≠ k ∧ G j b) (fun b hb => (h2 b).2 (hb.imp id fun ⟨j, _, h⟩ => ⟨j, h⟩)) (map_fr (S := F c) ((h2 _).2 (.inl rfl))) fun I hI => by
    have hs1 := h1.stable hI (fun j b hb => hfrB b fun e => h3 j (e ▸ hb)) (by simp)
    refine ⟨mdel (ku := uI) (vu := .hdl) es k, fun j b => j ≠ k ∧ G j b, ⟨KNd.del h1.nd, fun j hj => ?_, fun j z hj _ => ?_, fun _ _ _ _ hh => (by cases hh), fun i j b hij ha hb => h1.disj i j b hij ha.2 hb.2⟩, fun b => Iff.rfl, fun j hj => h3 j hj.2, es', clock, by simp [hlt2], hm'.mono hI, hB'⟩
    · by_cases hjk : j = k
      · exact ⟨if_pos hjk, rfl, fun b hb => hb.1 hjk⟩
      · rw [p2 j hjk] at hj
        obtain ⟨b1, _, b3⟩ := hs1.none_ j hj
        exact ⟨(if_neg hjk).trans b1, rfl, fun b hb => b3 b hb.2⟩
    · have hjk : j ≠ k := fun e => by rw [e, p1] at hj; cases hj
      rw [p2 j hjk] at hj
      obtain ⟨zs, r, b1, b2, b3⟩ := hs1.some_ j z hj rfl
      exact ⟨zs, r, (if_neg hjk).trans b1, b2, b3.congr fun b => ⟨fun h => h.2, fun h => ⟨hjk, h⟩⟩⟩
  exact hK _ _ ⟨put_size.trans hn, put_defers.trans hdf, ρ, _, hM', (hS.mono hE fun _ _ _ => rfl).putO (fun e he => by rw [hn]; exact hlt e he) ⟨[], rfl, rfl⟩⟩
/-- A map without anything. -/
theorem Le.dataEmp (c : Nat) {vu : U} (hc : lookB B c = some (.map uI vu [])) : Le ids K B K ((c, .obj (dataO fnone)) :: B) := by
  rintro N C a w ⟨hn, hd, ρ, F, hM, hS⟩
  obtain ⟨hF, ents, clock, h3, h4, h6⟩ := hM.holds c _ hc
  have h4 : ents = [] := h4
  subst h4
  obtain ⟨hM', hE⟩ := hM.turn (w' := w) (ch := .obj (dataO fnone)) hc (Fr.refl _ _) fun I hI => ⟨[], fun _ _ => False, ⟨.nil, fun _ _ => ⟨rfl, rfl, fun _ h => h⟩, fun _ _ h => (by cases h), fun _ _ _ h => (by cases h), fun _ _ _ _ h => h.elim⟩, fun b => by rw [hF]; simp, fun _ h => h, [], clock, h3, rfl, h6⟩
  exact ⟨hn, hd, ρ, F, hM', hS.mono hE fun _ _ _ => rfl⟩
end
end Go.Proofs.YtolaecebfkdbcaaGreat
