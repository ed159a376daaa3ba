/-
  Soundness of the conditions: regions in the text's order, code, functions.
-/
import Derived.Test.YthghcdddambaeaaSndC
import Derived.Deep.LoopGhost
set_option linter.unusedVariables false
set_option linter.unusedSimpArgs false
namespace Go.Proofs.Ythghcdddambaeaa
open Go.RowKit

def dstOK (N : Nat) : List Oper → Bool
  | [] => true
  | o :: l => (match o.dst with
    | some d => Nat.blt d N
    | none => true) && dstOK N l
def codeOK (P : Program) (N : Nat) : Code → Bool
  | .skip => true
  | .region _ ops draw => dstOK N ops.toList && (!draw || P.follows .mixedOrders)
  | .seq a b => codeOK P N a && codeOK P N b
  | .cond _ x y => codeOK P N x && codeOK P N y
  | .block _ b => codeOK P N b
  | .loop b => codeOK P N b
  | .exit _ => true
  | .ret => true
  | _ => false
section
variable {P : Program} {tt : Tr} {N : Nat} {ids : List Nat}
theorem yielded_of {ops : Array Oper} {a : Act} {j s : Nat} (hs : (ops[j]?).bind (·.dst) = some s) {v : Value} (hv : a.tmps.getD s undef = v) :
    (∀ b, v = .bool b → yielded ops a.tmps j = some b) ∧ ((∀ b, v ≠ .bool b) → yielded ops a.tmps j = none) := by
  unfold yielded
  rw [hs]
  simp only [Option.bind_some]
  cases ht : a.tmps[s]? with
  | none =>
    have hv : v = undef := by rw [← hv]; simp [ht]
    subst hv
    exact ⟨fun b hb => (by simp [undef] at hb), fun _ => rfl⟩
  | some x =>
    have hv : v = x := by rw [← hv]; simp [ht]
    subst hv
    refine ⟨fun b hb => by rw [hb], fun h => ?_⟩
    cases v <;> first | rfl | exact absurd rfl (h _)
theorem gslot_eq {all : List Oper} {j s : Nat} (h : gslot all j = some s) : ((all.toArray)[j]?).bind (·.dst) = some s := by
  unfold gslot at h
  simp only [List.getElem?_toArray]
  split at h
  · rename_i o ho; rw [ho]; exact h
  · cases h
theorem wants_sound {all : List Oper} {K : KL} {o : Oper} {t : Bool} (h : wants all K o.guard = some t) {ρ : Nat → Pl} {I : Nat → Prop} {a : Act} {w : World} (hS : Slots K ρ I a w) : Region.wanted o (yielded all.toArray a.tmps) = t := by
  unfold wants at h
  unfold Region.wanted
  split at h
  · rename_i hg
    injection h with h
    simp [hg, h]
  · rename_i j want hg
    simp only [hg]
    split at h
    · cases h
    · rename_i s hs
      have hs := gslot_eq hs
      have hv := hS s
      split at h
      · rename_i hl
        rw [hl] at hv
        have := (yielded_of (a := a) hs (show a.tmps.getD s undef = .bool true from hv)).1 true rfl
        injection h with h
        rw [this, ← h]; rfl
      · rename_i hl
        rw [hl] at hv
        have := (yielded_of (a := a) hs (show a.tmps.getD s undef = .bool true from hv)).1 true rfl
        injection h with h
        rw [this, ← h]; rfl
      · rename_i hl
        rw [hl] at hv
        have := (yielded_of (a := a) hs (show a.tmps.getD s undef = .bool false from hv)).1 false rfl
        injection h with h
        rw [this, ← h]; rfl
      · rename_i hl
        rw [hl] at hv
        have := (yielded_of (a := a) hs (show a.tmps.getD s undef = .bool false from hv)).1 false rfl
        injection h with h
        rw [this, ← h]; rfl
      · rename_i hl
        rw [hl] at hv
        have := (yielded_of (a := a) hs (show a.tmps.getD s undef = undef from hv)).2 (by simp [undef])
        injection h with h
        rw [this, ← h]
        simp
      · cases h
theorem Sat.undef {C : Ctx} {K : KL} {B : BL} {a : Act} {w : World} (h : Sat N ids C K B a w) (d : Option Nat) (hd : ∀ e, d = some e → e < N) : Sat N ids C (putK d .undef K) B (a.put d undef) w := by
  obtain ⟨h1, h2, ρ, F, hM, hS⟩ := h
  exact ⟨put_size.trans h1, put_defers.trans h2, ρ, F, hM, hS.putO (fun e he => by rw [h1]; exact hd e he) rfl⟩
theorem Sat.lit {C : Ctx} {K : KL} {B : BL} {a : Act} {w : World} {d : Nat} {b : Bool} (h : Sat N ids C ((d, .c (.one (.d (.bool b)))) :: K) B a w) : Sat N ids C ((d, .c (.one (.d (.lit b)))) :: K) B a w := by
  obtain ⟨h1, h2, ρ, F, hM, hS⟩ := h
  refine ⟨h1, h2, ρ, F, hM, fun s => ?_⟩
  have := hS s
  rw [look_cons] at this ⊢
  split at this
  · rw [if_pos ‹_›]; exact this
  · rw [if_neg ‹_›]; exact this
theorem vcs_seq (hP : TblOK P tt) (all : List Oper) : ∀ (l : List Oper) (i : Nat) (K : KL) (B : BL) (log : List Ent) (k : KL → BL → List Ent → Prop), dstOK N l = true → vcs P tt ids all i l K B log k → ∀ (C : Ctx) (a : Act) (w : World), Sat N ids C K B a w →
    ∀ Q : Exit → Act → World → Prop, (∀ K' B' log', k K' B' log' → ∀ a' w', Sat N ids C K' B' a' w' → Q .normal a' w') → wpList P all.toArray Q l a w
  | [], i, K, B, log, k, _, h, C, a, w, hs, Q, hk => wpList_nil (hk K B log h a w hs)
  | o :: l, i, K, B, log, k, hd, h, C, a, w, hs, Q, hk => by
    simp only [dstOK, Bool.and_eq_true] at hd
    obtain ⟨hd0, hdl⟩ := hd
    have hlt : ∀ d, o.dst = some d → d < N := fun d e => by rw [e] at hd0; simpa [Nat.blt_eq] using hd0
    have hs' := hs
    obtain ⟨_, _, ρ, F, hM, hS⟩ := hs'
    rw [vcs_cons] at h
    unfold vcsS at h
    refine wpList_step fun Kn hKn => ?_
    split at h
    · exact h.elim
    · rename_i hw
      rw [if_neg (by rw [wants_sound hw hS]; simp)]
      refine hKn _ _ ?_
      have hu := hs.undef o.dst hlt
      split at h
      · rename_i d e
        rw [e] at hu ⊢
        exact vcs_seq hP all l _ _ _ _ k hdl h C _ w hu Q hk
      · rename_i e
        rw [e] at hu ⊢
        exact vcs_seq hP all l _ _ _ _ k hdl h C _ w hu Q hk
    · rename_i hw
      rw [if_pos (wants_sound hw hS)]
      obtain ⟨v, e, h, hO, hf⟩ := vcOp_sound hP h
      refine hO K B (fun _ _ => rfl) (fun _ _ => rfl) hf C a w hs hlt Kn Q fun a' w' hs2 => hKn _ _ ?_
      split at h
      · rename_i e2
        rw [e2] at hs2
        exact vcs_seq hP all l _ _ _ _ k hdl h C _ w' hs2 Q hk
      · rename_i d e2
        rw [e2] at hs2
        split at h
        · rename_i b hg
          cases b with
          | true => exact vcs_seq hP all l _ _ _ _ k hdl (h.1 rfl) C _ w' hs2.lit Q hk
          | false => exact vcs_seq hP all l _ _ _ _ k hdl (h.2 rfl) C _ w' hs2.lit Q hk
        · exact vcs_seq hP all l _ _ _ _ k hdl h C _ w' hs2 Q hk
/-- A region that draws its order. (Draw shows it.) -/
def DrawOK (P : Program) (tt : Tr) (N : Nat) (ids : List Nat) : Prop := ∀ (id : Nat) (ops : Array Oper) (K : KL) (B : BL) (k : KL → BL → Prop), dstOK N ops.toList = true → P.follows .mixedOrders = true →
    vcs P tt ids ops.toList 0 ops.toList K B [] (fun K' B' log => indep K B ops.toList log = true ∧ k K' B') → ∀ (C : Ctx) (a : Act) (w : World), Sat N ids C K B a w →
    ∀ Q : Exit → Act → World → Prop, (∀ K' B', k K' B' → ∀ a' w', Sat N ids C K' B' a' w' → Q .normal a' w') → (Code.region id ops true).wp P Q a w
theorem Sat.eval {C : Ctx} {K : KL} {B : BL} {a : Act} {w : World} (h : Sat N ids C K B a w) {c : Operand} {b : Bool} (hc : opv K c = .c (.one (.d (.lit b))) ∨ opv K c = .c (.one (.d (.bool b)))) : a.eval c = .bool b := by
  obtain ⟨_, _, ρ, F, hM, hS⟩ := h
  rcases hc with hc | hc
  · exact hS.lit hc
  · exact hS.bool hc
theorem vc_sound (hP : TblOK P tt) (hD : DrawOK P tt N ids) (stops : List Nat) : ∀ (c : Code) (K : KL) (B : BL) (Q : Ex → KL → BL → Prop), codeOK P N c = true → vc P tt N ids stops c K B Q → TrQ P N ids c K B Q := by
  intro c
  induction c with
  | skip => exact fun K B Q _ h C Qs hq a w hs => wp_skip (hq .nrm K B h a w hs)
  | region id ops draw =>
    intro K B Q hc h
    rw [vc_region] at h
    simp only [codeOK, Bool.and_eq_true, Bool.or_eq_true, Bool.not_eq_true'] at hc
    split at h
    · exact h
    · split at h
      · intro C Qs hq a w hs
        refine wp_region_list ?_
        have := vcs_seq hP ops.toList ops.toList 0 K B [] _ hc.1 h C a w hs Qs (fun K' B' _ hk a' w' hs' => hq .nrm K' B' hk a' w' hs')
        simpa using this
      · intro C Qs hq a w hs
        exact hD id ops K B (Q .nrm) hc.1 (hc.2.resolve_left (by simp)) h C a w hs Qs (fun K' B' hk a' w' hs' => hq .nrm K' B' hk a' w' hs')
  | seq x y ih1 ih2 =>
    intro K B Q hc h C Qs hq a w hs
    simp only [codeOK, Bool.and_eq_true] at hc
    rw [vc_seq] at h
    refine wp_seq (ih1 K B _ hc.1 h C _ ?_ a w hs)
    intro e K' B' he a' w' hs'
    cases e with
    | nrm => exact ih2 K' B' Q hc.2 he C Qs hq a' w' hs'
    | ex i => exact hq (.ex i) K' B' he a' w' hs'
    | ret => exact hq .ret K' B' he a' w' hs'
  | cond c x y ih1 ih2 =>
    intro K B Q hc h C Qs hq a w hs
    simp only [codeOK, Bool.and_eq_true] at hc
    rw [vc_cond] at h
    split at h
    · rename_i hl
      exact wp_cond_true (hs.eval (.inl hl)) (ih1 K B Q hc.1 h C Qs hq a w hs)
    · rename_i hl
      exact wp_cond_false (hs.eval (.inl hl)) (ih2 K B Q hc.2 h C Qs hq a w hs)
    · rename_i b hl
      cases b with
      | true => exact wp_cond_true (hs.eval (.inr hl)) (ih1 K B Q hc.1 (h.1 rfl) C Qs hq a w hs)
      | false => exact wp_cond_false (hs.eval (.inr hl)) (ih2 K B Q hc.2 (h.2 rfl) C Qs hq a w hs)
    · exact h.elim
  | block i b ih =>
    intro K B Q hc h C Qs hq a w hs
    rw [vc_block] at h
    refine wp_block (ih K B _ hc h C _ ?_ a w hs)
    intro e K' B' he a' w' hs'
    cases e with
    | nrm => exact hq .nrm K' B' he a' w' hs'
    | ret => exact hq .ret K' B' he a' w' hs'
    | ex j =>
      simp only [Ex.to, Exit.inBlock] at he ⊢
      split at he
      · rename_i e
        have := Nat.eq_of_beq_eq_true e
        subst this
        rw [if_pos rfl]
        exact hq .nrm K' B' he a' w' hs'
      · rename_i e
        rw [if_neg (fun x => by subst x; simp at e)]
        exact hq (.ex j) K' B' he a' w' hs'
  | loop b ih => exact fun K B Q hc h => h
  | exit i => exact fun K B Q hc h C Qs hq a w hs => wp_exit (hq (.ex i) K B h a w hs)
  | ret => exact fun K B Q hc h C Qs hq a w hs => wp_ret (hq .ret K B h a w hs)
  | _ => intro K B Q hc h; simp [codeOK] at hc

/-! ### states that say less, loops -/
/-- Whoever is as the first state says is as the second one says. -/
def Le (ids : List Nat) (K : KL) (B : BL) (K' : KL) (B' : BL) : Prop := ∀ (N : Nat) (C : Ctx) (a : Act) (w : World), Sat N ids C K B a w → Sat N ids C K' B' a w
theorem Le.refl (K : KL) (B : BL) : Le ids K B K B := fun _ _ _ _ h => h
theorem Le.trans {K K' K'' : KL} {B B' B'' : BL} (h : Le ids K B K' B') (h' : Le ids K' B' K'' B'') : Le ids K B K'' B'' := fun N C a w hs => h' N C a w (h N C a w hs)
theorem TrQ.le {c : Code} {K K' : KL} {B B' : BL} {Q : Ex → KL → BL → Prop} (h : Le ids K B K' B') (ht : TrQ P N ids c K' B' Q) : TrQ P N ids c K B Q := fun C Qs hq a w hs => ht C Qs hq a w (h N C a w hs)
theorem TrQ.mono {c : Code} {K : KL} {B : BL} {Q Q' : Ex → KL → BL → Prop} (h : ∀ e K B, Q' e K B → Q e K B) (ht : TrQ P N ids c K B Q') : TrQ P N ids c K B Q := fun C Qs hq a w hs => ht C Qs (fun e K' B' he => hq e K' B' (h e K' B' he)) a w hs
/-- A loop: states told by x; each round lowers μ. -/
theorem TrQ.loop (hP : TblOK P tt) (hD : DrawOK P tt N ids) (stops : List Nat) {b : Code} (hc : codeOK P N b = true) {X : Type} (KI : X → KL) (BI : X → BL) (inv : X → Prop) (μ : X → Nat) (x0 : X) {K : KL} {B : BL} {Q : Ex → KL → BL → Prop} (h0 : inv x0) (hle : Le ids K B (KI x0) (BI x0))
    (h : ∀ x, inv x → vc P tt N ids stops b (KI x) (BI x) (fun e K B => match e with
      | .nrm => ∃ y, inv y ∧ μ y < μ x ∧ Le ids K B (KI y) (BI y)
      | .ex i => Q (.ex i) K B
      | .ret => Q .ret K B)) : TrQ P N ids (.loop b) K B Q := by
  intro C Qs hq a w hs
  refine wp_loop_ghost (fun n a w => ∃ x, inv x ∧ μ x = n ∧ Sat N ids C (KI x) (BI x) a w) (μ x0) ⟨x0, h0, rfl, hle N C a w hs⟩ ?_
  rintro n a w ⟨x, hx, rfl, hs⟩
  refine vc_sound hP hD stops b _ _ _ hc (h x hx) C _ ?_ a w hs
  intro e K' B' he a' w' hs'
  cases e with
  | nrm =>
    obtain ⟨y, hy, hlt, hle'⟩ := he
    exact ⟨μ y, hlt, y, hy, rfl, hle' N C a' w' hs'⟩
  | ex i => exact hq (.ex i) K' B' he a' w' hs'
  | ret => exact hq .ret K' B' he a' w' hs'

/-! ### functions -/
def argsK : Nat → List SV → KL
  | _, [] => []
  | i, v :: l => (i, v) :: argsK (i + 1) l
theorem look_argsK : ∀ (l : List SV) (i s : Nat), look (argsK i l) s = (if i ≤ s then (l[s - i]?).getD (.c (.one .any)) else .c (.one .any))
  | [], i, s => by simp [argsK, look]
  | v :: l, i, s => by
    simp only [argsK]
    rw [look_cons, look_argsK l (i + 1) s]
    by_cases h : i = s
    · subst h; simp
    · rw [if_neg h]
      by_cases h2 : i ≤ s
      · rw [if_pos (by omega), if_pos h2, show s - i = (s - (i + 1)) + 1 by omega]
        rfl
      · rw [if_neg (by omega), if_neg h2]
/-- What the result slots hand over. -/
def resOf (tt : Tr) (K : KL) (B : BL) : List ResultVar → Option (List SC)
  | [] => some []
  | .tmp t :: l => match look K t, resOf tt K B l with
    | .c x, some r => some (x :: r)
    | _, _ => none
  | .cell t T :: l => match look K t, resOf tt K B l, tt.find T with
    | .c (.one (.ptr c o)), some r, some ti => match lookB B c with
      | some (.cells m) => match ti.row with
        | true => match Nat.ble (o + ti.size) m.length with
          | true => some (.agg ((m.drop o).take ti.size) :: r)
          | false => none
        | false => match m[o]? with
          | some s => some (.one s :: r)
          | none => none
      | _ => none
    | _, _, _ => none
def resV (tmps : Array Value) (r : ResultVar) : Sem Value := match r with
  | .tmp t => pure (tmps.getD t undef)
  | .cell ad t => do loadVar t (← asAddr (tmps.getD ad undef))
def packR : List SC → SV
  | [x] => .c x
  | l => .tup l
theorem run_res (hP : TblOK P tt) {ρ : Nat → Pl} {F : Nat → Nat → Prop} {C : Ctx} {K : KL} {B : BL} {a : Act} {w : World} (hM : Mem ids C B ρ F w) (hS : Slots K ρ (Imm C B F w) a w) : ∀ (l : List ResultVar) (r : List SC), resOf tt K B l = some r →
    ∃ vs : List Value, (l.mapM (resV a.tmps)).run P w = .ok vs w ∧ DenCL ρ (Imm C B F w) w r vs
  | [], r, h => by
    simp only [resOf, Option.some.injEq] at h
    subst h
    exact ⟨[], by simp, rfl⟩
  | .tmp t :: l, r, h => by
    unfold resOf at h
    split at h
    · rename_i x r' hx hr
      injection h with h
      subst h
      obtain ⟨vs, h1, h2⟩ := run_res hP hM hS l r' hr
      have hv := hS t
      rw [hx] at hv
      exact ⟨_ :: vs, by simp [List.mapM_cons, h1, resV], _, vs, rfl, hv, h2⟩
    · cases h
  | .cell t T :: l, r, h => by
    unfold resOf at h
    split at h
    · rename_i c o r' ti hx hr hti
      obtain ⟨i, d, hok⟩ := hP.at_ hti
      obtain ⟨vs, h1, h2⟩ := run_res hP hM hS l r' hr
      have hv := hS t
      rw [hx] at hv
      have hv : a.tmps.getD t undef = .pointer (some ⟨(ρ c).blk, o, none⟩) := hv
      split at h
      · rename_i m hl
        obtain ⟨hF, us, T', hb, hd⟩ := hM.holds c _ hl
        split at h
        · rename_i hrow
          split at h
          · rename_i hle
            have hle := Nat.le_of_ble_eq_true hle
            injection h with h
            subst h
            have hd2 := DenL.tk ti.size _ _ (DenL.dp o _ _ hd)
            have hrun := run_loadVar_mid (P := P) w (ρ c).blk o T ((us.drop o).take ti.size) d (fun j u hj => by
              rw [List.getElem?_take] at hj
              split at hj
              · rw [List.getElem?_drop] at hj
                exact cell_of hb hj
              · cases hj) hok.und (hok.row.trans hrow) (by rw [hok.info, Option.map_some, hok.size, DenL.length _ _ hd2, List.length_take, List.length_drop]; congr 1; omega)
            exact ⟨_ :: vs, by simp [List.mapM_cons, resV, hv, asAddr, hrun, h1], _, vs, rfl, ⟨_, rfl, hd2⟩, h2⟩
          · cases h
        · rename_i hrow
          split at h
          · rename_i s hs
            injection h with h
            subst h
            obtain ⟨v, hv2, hd2⟩ := DenL.get _ _ hd o s hs
            have hrun := run_load1 (P := P) (T := T) hok.und (hok.row.trans hrow) (cell_of hb hv2)
            exact ⟨_ :: vs, by simp [List.mapM_cons, resV, hv, asAddr, hrun, h1], _, vs, rfl, hd2, h2⟩
          · cases h
      · cases h
    · cases h
/-- Names of blocks that are among these alone. -/
def capsAmong (l : List Nat) : List Cap → Bool
  | [] => true
  | .p b _ :: m => l.contains b && capsAmong l m
  | .d _ :: m => capsAmong l m
theorem capsAmong_has {l : List Nat} {c : Nat} : ∀ {m : List Cap}, capsAmong l m = true → capsHave c m = true → c ∈ l
  | [], _, hc => by simp [capsHave] at hc
  | .p b o :: m, h, hc => by
    simp only [capsAmong, Bool.and_eq_true, List.contains_iff_mem] at h
    simp only [capsHave, Bool.or_eq_true] at hc
    rcases hc with hc | hc
    · have := Nat.eq_of_beq_eq_true hc; subst this; exact h.1
    · exact capsAmong_has h.2 hc
  | .d x :: m, h, hc => capsAmong_has (m := m) (by simpa [capsAmong] using h) (by simpa [capsHave] using hc)
def S1.among (l : List Nat) : S1 → Bool
  | .ptr b _ => l.contains b
  | .own b => l.contains b
  | .rp b _ _ _ => l.contains b
  | .os b _ _ _ => l.contains b
  | .mp b => l.contains b
  | .clo _ m => capsAmong l m
  | _ => true
def amongL (l : List Nat) : List S1 → Bool
  | [] => true
  | s :: m => s.among l && amongL l m
def SC.among (l : List Nat) : SC → Bool
  | .one s => s.among l
  | .agg m => amongL l m
def amongCL (l : List Nat) : List SC → Bool
  | [] => true
  | s :: m => s.among l && amongCL l m
def SV.among (l : List Nat) : SV → Bool
  | .c x => x.among l
  | .tup m => amongCL l m
  | .undef => true
def Ch.among (l : List Nat) : Ch → Bool
  | .cells m => amongL l m
  | _ => true
def amongB (l : List Nat) : BL → Bool
  | [] => true
  | (_, ch) :: B => ch.among l && amongB l B
theorem S1.among_has {l : List Nat} {s : S1} (h : s.among l = true) {c : Nat} (hc : s.has c = true) : c ∈ l := by
  cases s <;> simp only [S1.among, S1.has, List.contains_iff_mem, Bool.false_eq_true] at h hc
  all_goals first | exact capsAmong_has h hc | (have := Nat.eq_of_beq_eq_true hc; subst this; exact h)
theorem amongL_has {l : List Nat} {c : Nat} : ∀ {m : List S1}, amongL l m = true → hasL c m = true → c ∈ l
  | [], _, hc => by simp [hasL] at hc
  | s :: m, h, hc => by
    simp only [amongL, Bool.and_eq_true] at h
    simp only [hasL, Bool.or_eq_true] at hc
    exact hc.elim (S1.among_has h.1) (amongL_has h.2)
theorem SC.among_has {l : List Nat} {s : SC} (h : s.among l = true) {c : Nat} (hc : s.has c = true) : c ∈ l := by
  cases s with
  | one s => exact S1.among_has h hc
  | agg m => exact amongL_has h hc
theorem amongCL_has {l : List Nat} {c : Nat} : ∀ {m : List SC}, amongCL l m = true → hasCL c m = true → c ∈ l
  | [], _, hc => by simp [hasCL] at hc
  | s :: m, h, hc => by
    simp only [amongCL, Bool.and_eq_true] at h
    simp only [hasCL, Bool.or_eq_true] at hc
    exact hc.elim (SC.among_has h.1) (amongCL_has h.2)
theorem SV.among_has {l : List Nat} {s : SV} (h : s.among l = true) {c : Nat} (hc : s.has c = true) : c ∈ l := by
  cases s with
  | c s => exact SC.among_has h hc
  | tup m => exact amongCL_has h hc
  | undef => cases hc
theorem Ch.among_has {l : List Nat} {s : Ch} (h : s.among l = true) {c : Nat} (hc : s.has c = true) : c ∈ l := by
  cases s with
  | cells m => exact amongL_has h hc
  | row e u xs => cases hc
  | obj o => cases hc
theorem amongB_get {l : List Nat} : ∀ {B : BL}, amongB l B = true → ∀ {c ch}, lookB B c = some ch → ch.among l = true
  | [], _, c, ch, h => by cases h
  | (d, x) :: B, h, c, ch, hc => by
    simp only [amongB, Bool.and_eq_true] at h
    rw [lookB_cons] at hc
    split at hc
    · injection hc with hc; subst hc; exact h.1
    · exact amongB_get h.2 hc
section
variable {ρ : Nat → Pl} {I : Nat → Prop} {w : World}
theorem leD_den : ∀ {x y : D} {v : Value}, leD x y → Den I w x v → Den I w y v := by
  intro x y v h hv
  unfold leD at h
  split at h
  · split at h
    · rename_i e
      have := eqK_eq e
      subst this h
      exact hv
    · exact h.elim
  · subst h; exact hv
  · subst h; exact hv
  · subst h; exact hv
  · subst h; exact hv
  · split at h
    · rename_i e _
      subst e
      have h : _ = _ := h
      subst h
      exact hv
    · exact h.elim
  · exact h.elim
theorem leS_den {s t : S1} {v : Value} (h : leS s t) (hv : DenS ρ I w s v) : DenS ρ I w t v := by
  unfold leS at h
  split at h
  · trivial
  · exact leD_den h hv
  · subst h
    rw [show v = _ from hv]
    exact ⟨none, 0, rfl, Nat.le_refl _, Nat.zero_le _, fun h => absurd h (Nat.lt_irrefl 0)⟩
  · subst h; exact hv
theorem leL_den : ∀ {l m : List S1} {vs : List Value}, leL l m → DenL ρ I w l vs → DenL ρ I w m vs
  | [], [], _, _, h => h
  | s :: l, t :: m, _, ⟨h1, h2⟩, ⟨v, r, e, g1, g2⟩ => ⟨v, r, e, leS_den h1 g1, leL_den h2 g2⟩
  | [], _ :: _, _, h, _ => h.elim
  | _ :: _, [], _, h, _ => h.elim
theorem leC_den {s t : SC} {v : Value} (h : leC s t) (hv : DenC ρ I w s v) : DenC ρ I w t v := by
  unfold leC at h
  split at h
  · exact leS_den h hv
  · obtain ⟨vs, e, hv⟩ := hv
    exact ⟨vs, e, leL_den h hv⟩
  · trivial
  · exact h.elim
theorem leCL_den : ∀ {l m : List SC} {vs : List Value}, leCL l m → DenCL ρ I w l vs → DenCL ρ I w m vs
  | [], [], _, _, h => h
  | s :: l, t :: m, _, ⟨h1, h2⟩, ⟨v, r, e, g1, g2⟩ => ⟨v, r, e, leC_den h1 g1, leCL_den h2 g2⟩
  | [], _ :: _, _, h, _ => h.elim
  | _ :: _, [], _, h, _ => h.elim
theorem leV_den {s t : SV} {v : Value} (h : leV s t) (hv : DenV ρ I w s v) : DenV ρ I w t v := by
  unfold leV at h
  split at h
  · exact leC_den h hv
  · obtain ⟨vs, e, hv⟩ := hv
    exact ⟨vs, e, leCL_den h hv⟩
  · exact hv
  · trivial
  · exact h.elim
theorem leVL_get : ∀ {l m : List SV}, leVL l m → l.length = m.length ∧ ∀ (i : Nat) (t : SV), m[i]? = some t → ∃ s, l[i]? = some s ∧ leV s t
  | [], [], _ => ⟨rfl, fun i t h => by simp at h⟩
  | s :: l, t :: m, ⟨h1, h2⟩ => by
    obtain ⟨g1, g2⟩ := leVL_get h2
    refine ⟨by simp [g1], fun i u hu => ?_⟩
    match i with
    | 0 =>
      simp only [List.getElem?_cons_zero, Option.some.injEq] at hu
      subst hu
      exact ⟨s, rfl, h1⟩
    | i + 1 => exact g2 i u (by simpa using hu)
  | [], _ :: _, h => h.elim
  | _ :: _, [], h => h.elim
end
/-- A contract serves values that say more. -/
theorem Fn.arg {P : Program} {f : FuncId} {args args' : List SV} {Bi : BL} {nw : List Nat} {res : SV} {Bo : BL} (h : Fn P f args' Bi nw res Bo) (hl : leVL args args') : Fn P f args Bi nw res Bo := by
  obtain ⟨h1, h2⟩ := leVL_get hl
  refine ⟨h.1, fun ρ F I w vals a1 a2 a3 a4 a5 a6 => h.2 ρ F I w vals a1 a2 a3 a4 (a5.trans h1) fun i v x hv hx => ?_⟩
  obtain ⟨s, g1, g2⟩ := h2 i v hv
  exact leV_den g2 (a6 i s x g1 hx)
/-- How a function is to be left. -/
def RetQ (tt : Tr) (ids nw : List Nat) (rs : List ResultVar) (res : SV) (Bo : BL) (e : Ex) (K : KL) (B : BL) : Prop := match e with
  | .ex _ => False
  | _ => ∃ K' B' r, Le ids K B K' B' ∧ resOf tt K' B' rs = some r ∧ leV (packR r) res ∧ subB B' Bo ∧ (res.among (ids ++ nw) && amongB (ids ++ nw) Bo && (keysB Bo).all (fun c => (ids ++ nw).contains c)) = true
theorem Fn.of (hP : TblOK P tt) {f : FuncId} {fn : Func} {c : Code} (stops : List Nat) (args : List SV) (Bi : BL) (nw : List Nat) (res : SV) (Bo : BL) (hf : P.funcs[f]? = some fn) (hb : fn.body = some c) (hn : fn.ntmps = N) (hcall : callable P f = true) (hc : codeOK P N c = true) (hargs : Nat.ble args.length N = true) (hD : DrawOK P tt N (keysB Bi)) {rs : List ResultVar} (hrs : fn.results.toList = rs)
    (h : vc P tt N (keysB Bi) stops c (argsK 0 args) Bi (RetQ tt (keysB Bi) nw rs res Bo)) : Fn P f args Bi nw res Bo := by
  refine ⟨hcall, ?_⟩
  intro ρ F I w vals hI hH hF hdj hlen hden
  have hargs := Nat.le_of_ble_eq_true hargs
  refine calls_of_wp hf hb ?_
  let C : Ctx := ⟨w, I, fun b => ∃ c ch, lookB Bi c = some ch ∧ F c b, ρ⟩
  have hImm : Ext I w (Imm C Bi F w) w := fun b hb => ⟨⟨hI b hb, .inl hb, fun c ch hc hFb => (hF c ch hc b hFb).2 hb⟩, rfl⟩
  have hM : Mem (keysB Bi) C Bi ρ F w := ⟨Fr.refl _ _, fun c ch hc => Holds.stable hImm (fun _ _ => rfl) (Nat.le_refl _) ch (fun _ _ => rfl) (hH c ch hc), fun c ch hc b hb => ⟨(hF c ch hc b hb).1, .inl ⟨c, ch, hc, hb⟩⟩, hdj, fun c _ => rfl⟩
  refine vc_sound hP hD stops c _ _ _ hc h C _ ?_ _ w ⟨by simp [hlen, hn]; omega, rfl, ρ, F, hM, fun s => ?_⟩
  · intro e K' B' he a' w' hs'
    cases e with
    | ex i => exact he.elim
    | _ =>
      obtain ⟨K2, B2, r, hle, hr, hp, hsub, ham⟩ := he
      obtain ⟨hn2, hd2, ρ', F', hM', hS'⟩ := hle N C a' w' hs'
      obtain ⟨vs, hrun, hvs⟩ := run_res hP hM' hS' rs r hr
      have hres : ∃ x, (results fn a'.tmps).run P w' = .ok x w' ∧ DenV ρ' (Imm C B2 F' w') w' (packR r) x := by
        have h1 : fn.results = rs.toArray := by rw [← hrs]
        have h2 : (fn.results.mapM (resV a'.tmps)).run P w' = .ok (List.toArray vs) w' := by
          rw [h1, List.mapM_toArray]
          simp [hrun]
        have h3 : results fn a'.tmps = (do let vs ← fn.results.mapM (resV a'.tmps); pure (if h : vs.size = 1 then vs[0] else .tuple vs)) := rfl
        rw [h3]
        match r, vs, hvs, h2 with
        | [], _, e, h2 => rw [show _ = [] from e] at h2; exact ⟨.tuple #[], by simp [h2], [], rfl, rfl⟩
        | [x], _, ⟨v, s, e, hv, hs⟩, h2 =>
          have hs : s = [] := hs
          subst hs e
          exact ⟨v, by simp [h2], hv⟩
        | x :: y :: r, _, ⟨v, s, e, hv, v2, s2, e2, hv2, hs2⟩, h2 =>
          subst e2 e
          exact ⟨.tuple (List.toArray (v :: v2 :: s2)), by simp [h2], _, rfl, v, _, rfl, hv, v2, s2, rfl, hv2, hs2⟩
      obtain ⟨x, hx, hxd⟩ := hres
      have hxd := leV_den hp hxd
      simp only [Bool.and_eq_true] at ham
      let ρ2 : Nat → Pl := fun c => if c ∈ nw then ρ' c else ρ c
      have hρ2 : ∀ c, c ∈ keysB Bi ++ nw → ρ2 c = ρ' c := fun c hc => by
        show (if c ∈ nw then ρ' c else ρ c) = ρ' c
        split
        · rfl
        · rename_i hn
          rcases List.mem_append.1 hc with h | h
          · exact (hM'.keep c h).symm
          · exact absurd h hn
      refine ⟨hd2, x, hx, x, ρ2, F', rfl, hM'.fr, fun c hc => if_neg hc, Imm C B2 F' w', ?_, fun b hb => ⟨hb.1, ?_⟩, ?_, ?_, ?_, ?_⟩
      · intro b hb
        have hnF : ¬ C.F0 b := fun ⟨c, ch, h1, h2⟩ => (hF c ch h1 b h2).2 hb
        refine ⟨⟨Nat.lt_of_lt_of_le (hI b hb) hM'.fr.size, .inl hb, fun c ch hc hFb => ?_⟩, hM'.fr.block b (hI b hb) hnF⟩
        rcases (hM'.own c ch hc b hFb).2 with h | h
        · exact hnF h
        · have := hI b hb; exact absurd h (Nat.not_le.2 this)
      · rcases hb.2.1 with h | h | h
        · exact .inl h
        · exact .inr (.inl h)
        · exact .inr (.inr h)
      · intro c ch hc
        have hk : c ∈ keysB Bi ++ nw := by
          have := List.all_eq_true.1 ham.2 c (keysB_mem.2 ⟨ch, hc⟩)
          simpa only [List.contains_iff_mem] using this
        rw [hρ2 c hk]
        exact Holds.stable (Ext.refl _ _) (fun _ _ => rfl) (Nat.le_refl _) ch (fun d hd => hρ2 d (Ch.among_has (amongB_get ham.1.2 hc) hd)) (hM'.holds c ch (subB_get hsub hc))
      · intro c ch hc b hb
        have hc' := subB_get hsub hc
        exact ⟨(hM'.own c ch hc' b hb).1, fun hi => hi.2.2 c ch hc' hb, (hM'.own c ch hc' b hb).2⟩
      · exact fun c c' ch ch' b h1 h2 => hM'.disj c c' ch ch' b (subB_get hsub h1) (subB_get hsub h2)
      · exact DenV.mono (Ext.refl _ _) res x (fun c hc => hρ2 c (SV.among_has ham.1.1 hc)) hxd
  · rw [look_argsK]
    simp only [Nat.zero_le, if_true, Nat.sub_zero]
    cases hs : args[s]? with
    | none => trivial
    | some v =>
      have hlt : s < vals.length := by rw [hlen]; exact (List.getElem?_eq_some_iff.1 hs).1
      simp only [Option.getD_some]
      have hx : vals[s]? = some vals[s] := List.getElem?_eq_getElem hlt
      have := DenV.mono hImm v _ (fun _ _ => rfl) (hden s v _ hs hx)
      simpa [Array.getElem?_append, hlt, hx] using this
end
end Go.Proofs.Ythghcdddambaeaa
