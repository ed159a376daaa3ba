/-
  Soundness of the conditions: regions that draw their order.
-/
import Derived.Test.YthghcdddambaeaaCode
import Derived.Orders
set_option linter.unusedVariables false
set_option linter.unusedSimpArgs false
namespace Go.Proofs.Ythghcdddambaeaa
open Go.RowKit

/-! ### folds of which some steps are left out -/
section fold
variable {T σ V : Type} (get : σ → Nat → V) (ap : T → σ → σ) (tch : T → Nat → Prop)
def mfold (m : Nat → Bool) : Nat → List T → σ → σ
  | _, [], x => x
  | i, t :: l, x => mfold m (i + 1) l (if m i then ap t x else x)
variable (h1 : ∀ t x s, ¬ tch t s → get (ap t x) s = get x s) (h2 : ∀ t x y s, get x s = get y s → get (ap t x) s = get (ap t y) s)
include h1 h2 in
theorem mfold_agree (m m' : Nat → Bool) (s : Nat) : ∀ (l : List T) (i : Nat) (x y : σ), (∀ j t, l[j]? = some t → tch t s → m (i + j) = m' (i + j)) → get x s = get y s → get (mfold ap m i l x) s = get (mfold ap m' i l y) s
  | [], i, x, y, _, he => he
  | t :: l, i, x, y, h, he => by
    unfold mfold
    refine mfold_agree m m' s l (i + 1) _ _ (fun j u hj hu => by rw [show i + 1 + j = i + (j + 1) by omega]; exact h (j + 1) u (by simpa using hj) hu) ?_
    by_cases ht : tch t s
    · have := h 0 t rfl ht
      rw [Nat.add_zero] at this
      rw [this]
      split
      · exact h2 t x y s he
      · exact he
    · have e1 : get (if m i then ap t x else x) s = get x s := by split; exact h1 t x s ht; rfl
      have e2 : get (if m' i then ap t y else y) s = get y s := by split; exact h1 t y s ht; rfl
      rw [e1, e2, he]
include h1 h2 in
/-- One step more: as if it came last, if none that comes behind it touches what it touches. -/
theorem mfold_more (m : Nat → Bool) (k : Nat) (s : Nat) : ∀ (l : List T) (i : Nat) (x : σ) (t : T), l[k]? = some t → m (i + k) = false → (∀ j u, k < j → l[j]? = some u → m (i + j) = true → tch t s → ¬ tch u s) →
    get (mfold ap (fun j => m j || j == i + k) i l x) s = get (ap t (mfold ap m i l x)) s
  | [], i, x, t, hk, _, _ => by simp at hk
  | u :: l, i, x, t, hk, hm, hl => by
    unfold mfold
    match k with
    | 0 =>
      simp only [List.getElem?_cons_zero, Option.some.injEq] at hk
      subst hk
      rw [Nat.add_zero] at hm
      simp only [Nat.add_zero, hm, BEq.rfl, Bool.or_true, if_true, Bool.false_eq_true, if_false]
      by_cases ht : tch u s
      · -- none behind touches it
        have e1 : ∀ y, get (mfold ap (fun j => m j || j == i) (i + 1) l y) s = get (mfold ap (fun _ => false) (i + 1) l y) s := fun y =>
          mfold_agree get ap tch h1 h2 _ _ s l (i + 1) y y (fun j v hj hv => by
            have hne : (i + 1 + j == i) = false := by rw [beq_eq_false_iff_ne]; omega
            rw [hne, Bool.or_false]
            cases hmj : m (i + 1 + j) with
            | false => rfl
            | true => exact absurd hv (hl (j + 1) v (by omega) (by simpa using hj) (by rw [show i + (j + 1) = i + 1 + j by omega]; exact hmj) ht)) rfl
        have e2 : ∀ y, get (mfold ap m (i + 1) l y) s = get (mfold ap (fun _ => false) (i + 1) l y) s := fun y =>
          mfold_agree get ap tch h1 h2 _ _ s l (i + 1) y y (fun j v hj hv => by
            cases hmj : m (i + 1 + j) with
            | false => rfl
            | true => exact absurd hv (hl (j + 1) v (by omega) (by simpa using hj) (by rw [show i + (j + 1) = i + 1 + j by omega]; exact hmj) ht)) rfl
        have e3 : ∀ (l : List T) (i : Nat) (y : σ), mfold ap (fun _ => false) i l y = y := fun l => by
          induction l with
          | nil => exact fun _ _ => rfl
          | cons v l ih => intro i y; unfold mfold; simp [ih]
        rw [e1, e3]
        exact h2 u x _ s (by rw [e2, e3])
      · rw [h1 u _ s ht]
        exact mfold_agree get ap tch h1 h2 _ _ s l (i + 1) _ _ (fun j v hj hv => by
          have hne : (i + 1 + j == i) = false := by rw [beq_eq_false_iff_ne]; omega
          rw [hne, Bool.or_false]) (h1 u x s ht)
    | k + 1 =>
      have hne : (i == i + (k + 1)) = false := by rw [beq_eq_false_iff_ne]; omega
      simp only [hne, Bool.or_false]
      have := mfold_more m k s l (i + 1) (if m i = true then ap u x else x) t (by simpa using hk) (by rw [show i + 1 + k = i + (k + 1) by omega]; exact hm) (fun j v hj hv hmv ht => hl (j + 1) v (by omega) (by simpa using hv) (by rw [show i + (j + 1) = i + 1 + j by omega]; exact hmv) ht)
      rw [← this]
      have e : (fun j => m j || j == i + 1 + k) = (fun j => m j || j == i + (k + 1)) := by
        funext j
        rw [show i + 1 + k = i + (k + 1) by omega]
      rw [e]
end fold

section
variable {P : Program} {tt : Tr} {N : Nat} {ids : List Nat}
abbrev Stp := Oper × Ent
def apK (t : Stp) (K : KL) : KL := putK t.1.dst t.2.v K
def apB (t : Stp) (B : BL) : BL := applyB t.2.e.wc B
def tchK (t : Stp) (s : Nat) : Prop := t.1.dst = some s
def tchB (t : Stp) (s : Nat) : Prop := s ∈ wIds t.2.e
theorem apK_1 (t : Stp) (K : KL) (s : Nat) (h : ¬ tchK t s) : look (apK t K) s = look K s := by
  unfold apK putK
  unfold tchK at h
  split
  · rename_i d e
    rw [look_cons, if_neg (fun x => h (by rw [e, x]))]
  · rfl
theorem apK_2 (t : Stp) (K K' : KL) (s : Nat) (h : look K s = look K' s) : look (apK t K) s = look (apK t K') s := by
  unfold apK putK
  split
  · rw [look_cons, look_cons, h]
  · exact h
theorem applyB_2 : ∀ (l : List (Nat × Option Ch)) (B B' : BL) (s : Nat), lookB B s = lookB B' s → lookB (applyB l B) s = lookB (applyB l B') s
  | [], B, B', s, h => h
  | (c, none) :: l, B, B', s, h => applyB_2 l _ _ s (by rw [lookB_dropB, lookB_dropB, h])
  | (c, some ch) :: l, B, B', s, h => applyB_2 l _ _ s (by rw [lookB_cons, lookB_cons, h])
theorem applyB_1 : ∀ (l : List (Nat × Option Ch)) (B : BL) (s : Nat), s ∉ l.map (·.1) → lookB (applyB l B) s = lookB B s
  | [], B, s, h => rfl
  | (c, none) :: l, B, s, h => by
    simp only [List.map_cons, List.mem_cons, not_or] at h
    unfold applyB
    rw [applyB_1 l _ s h.2, lookB_dropB, if_neg (Ne.symm h.1)]
  | (c, some ch) :: l, B, s, h => by
    simp only [List.map_cons, List.mem_cons, not_or] at h
    unfold applyB
    rw [applyB_1 l _ s h.2, lookB_cons, if_neg (Ne.symm h.1)]
/-- Only what is looked up counts. -/
theorem Sat.congr {C : Ctx} {K K' : KL} {B B' : BL} {a : Act} {w : World} (hK : ∀ s, look K' s = look K s) (hB : ∀ c, lookB B' c = lookB B c) (h : Sat N ids C K B a w) : Sat N ids C K' B' a w := by
  obtain ⟨h1, h2, ρ, F, hM, hS⟩ := h
  have hI : Imm C B' F w = Imm C B F w := by
    funext b
    simp only [Imm, hB]
  refine ⟨h1, h2, ρ, F, ⟨hM.fr, fun c ch hc => ?_, fun c ch hc => hM.own c ch (by rw [← hB]; exact hc), fun c c' ch ch' b hc hc' => hM.disj c c' ch ch' b (by rw [← hB]; exact hc) (by rw [← hB]; exact hc'), hM.keep⟩, fun s => ?_⟩
  · rw [hI]; exact hM.holds c ch (by rw [← hB]; exact hc)
  · rw [hI, hK]; exact hS s

/-! ### the text's order, told step by step -/
def OpF (P : Program) (N : Nat) (ids : List Nat) (all : List Oper) (t : Stp) (K : KL) (B : BL) : Prop :=
  (wants all K t.1.guard = some false ∧ t.2.v = .undef ∧ t.2.e = e0) ∨ (wants all K t.1.guard = some true ∧ OpOK P N ids t.1 K B t.2.v t.2.e ∧ ∀ c, c ∈ t.2.e.nw → freshB ids K B c = true)
theorem OpOK.lit {o : Oper} {K : KL} {B : BL} {b : Bool} {e : Eff} (h : OpOK P N ids o K B (.c (.one (.d (.bool b)))) e) : OpOK P N ids o K B (.c (.one (.d (.lit b)))) e := by
  intro K' B' g1 g2 g3 C a w hs hlt Kn Q hK
  refine h K' B' g1 g2 g3 C a w hs hlt Kn Q fun a' w' hs' => hK a' w' ?_
  cases hd : o.dst with
  | none => rw [hd] at hs'; exact hs'
  | some d => rw [hd] at hs'; exact hs'.lit
theorem OpOK.any {o : Oper} {K : KL} {B : BL} {v v' : SV} {e : Eff} (hd : o.dst = none) (h : OpOK P N ids o K B v e) : OpOK P N ids o K B v' e := by
  intro K' B' g1 g2 g3 C a w hs hlt Kn Q hK
  refine h K' B' g1 g2 g3 C a w hs hlt Kn Q fun a' w' hs' => hK a' w' ?_
  rw [hd] at hs' ⊢
  exact hs'
def allF (P : Program) (N : Nat) (ids : List Nat) (all : List Oper) : List Stp → KL → BL → Prop
  | [], _, _ => True
  | t :: l, K, B => OpF P N ids all t K B ∧ allF P N ids all l (apK t K) (apB t B)
def runK : List Stp → KL → KL
  | [], K => K
  | t :: l, K => runK l (apK t K)
def runB : List Stp → BL → BL
  | [], B => B
  | t :: l, B => runB l (apB t B)
theorem vcs_steps (hP : TblOK P tt) (all : List Oper) : ∀ (l : List Oper) (i : Nat) (K : KL) (B : BL) (log : List Ent) (k : KL → BL → List Ent → Prop), vcs P tt ids all i l K B log k →
    ∃ ts : List Stp, ts.map (·.1) = l ∧ allF P N ids all ts K B ∧ k (runK ts K) (runB ts B) ((ts.map (·.2)).reverse ++ log)
  | [], i, K, B, log, k, h => ⟨[], rfl, trivial, h⟩
  | o :: l, i, K, B, log, k, h => by
    have fin : ∀ (n : Ent), OpF P N ids all (o, n) K B → vcs P tt ids all (i + 1) l (apK (o, n) K) (apB (o, n) B) (n :: log) k → ∃ ts : List Stp, ts.map (·.1) = o :: l ∧ allF P N ids all ts K B ∧ k (runK ts K) (runB ts B) ((ts.map (·.2)).reverse ++ log) := fun n hn hv => by
      obtain ⟨ts, h1, h2, h3⟩ := vcs_steps hP all l (i + 1) _ _ _ k hv
      exact ⟨(o, n) :: ts, by simp [h1], ⟨hn, h2⟩, by simpa [runK, runB] using h3⟩
    rw [vcs_cons] at h
    unfold vcsS at h
    split at h
    · exact h.elim
    · rename_i hw
      split at h
      · rename_i d e
        exact fin ⟨i, .undef, e0⟩ (.inl ⟨hw, rfl, rfl⟩) (by simpa [apK, apB, putK, e, applyB] using h)
      · rename_i e
        exact fin ⟨i, .undef, e0⟩ (.inl ⟨hw, rfl, rfl⟩) (by simpa [apK, apB, putK, e, applyB] using h)
    · rename_i hw
      obtain ⟨v, e, h, hO, hf⟩ := vcOp_sound (N := N) hP h
      split at h
      · rename_i e2
        exact fin ⟨i, .undef, e⟩ (.inr ⟨hw, OpOK.any e2 hO, hf⟩) (by simpa [apK, apB, putK, e2] using h)
      · rename_i d e2
        split at h
        · rename_i b hg
          cases b with
          | true => exact fin ⟨i, .c (.one (.d (.lit true))), e⟩ (.inr ⟨hw, hO.lit, hf⟩) (by simpa [apK, apB, putK, e2] using h.1 rfl)
          | false => exact fin ⟨i, .c (.one (.d (.lit false))), e⟩ (.inr ⟨hw, hO.lit, hf⟩) (by simpa [apK, apB, putK, e2] using h.2 rfl)
        · exact fin ⟨i, _, e⟩ (.inr ⟨hw, hO, hf⟩) (by simpa [apK, apB, putK, e2] using h)
theorem allF_get {all : List Oper} : ∀ (ts : List Stp) (i : Nat) (K : KL) (B : BL), allF P N ids all ts K B → ∀ (p : Nat) (t : Stp), ts[p]? = some t → OpF P N ids all t (mfold apK (fun j => decide (j < i + p)) i ts K) (mfold apB (fun j => decide (j < i + p)) i ts B)
  | [], i, K, B, _, p, t, hp => by simp at hp
  | u :: ts, i, K, B, h, 0, t, hp => by
    simp only [List.getElem?_cons_zero, Option.some.injEq] at hp
    subst hp
    have e3 : ∀ {σ : Type} (ap : Stp → σ → σ) (l : List Stp) (q : Nat) (y : σ), i ≤ q → mfold ap (fun j => decide (j < i + 0)) q l y = y := fun {σ} ap l => by
      induction l with
      | nil => exact fun _ _ _ => rfl
      | cons v l ih =>
        intro q y hq
        unfold mfold
        rw [ih (q + 1) _ (by omega)]
        simp only [decide_eq_true_eq]
        rw [if_neg (by omega)]
    rw [e3 apK _ i K (Nat.le_refl _), e3 apB _ i B (Nat.le_refl _)]
    exact h.1
  | u :: ts, i, K, B, h, p + 1, t, hp => by
    have := allF_get ts (i + 1) _ _ h.2 p t (by simpa using hp)
    unfold mfold
    simp only [decide_eq_true_eq]
    rw [if_pos (by omega), if_pos (by omega)]
    rw [show i + (p + 1) = i + 1 + p by omega]
    exact this
theorem runK_fold : ∀ (ts : List Stp) (i : Nat) (m : Nat → Bool) (K : KL), (∀ j, j < ts.length → m (i + j) = true) → runK ts K = mfold apK m i ts K
  | [], _, _, _, _ => rfl
  | t :: ts, i, m, K, h => by
    unfold runK mfold
    rw [if_pos (by simpa using h 0 (by simp))]
    exact runK_fold ts (i + 1) m _ fun j hj => by rw [show i + 1 + j = i + (j + 1) by omega]; exact h (j + 1) (by simpa using hj)
theorem runB_fold : ∀ (ts : List Stp) (i : Nat) (m : Nat → Bool) (B : BL), (∀ j, j < ts.length → m (i + j) = true) → runB ts B = mfold apB m i ts B
  | [], _, _, _, _ => rfl
  | t :: ts, i, m, B, h => by
    unfold runB mfold
    rw [if_pos (by simpa using h 0 (by simp))]
    exact runB_fold ts (i + 1) m _ fun j hj => by rw [show i + 1 + j = i + (j + 1) by omega]; exact h (j + 1) (by simpa using hj)
theorem noK_fold {c : Nat} : ∀ (ts : List Stp) (i : Nat) (m : Nat → Bool) (K : KL), noK c K = true → (∀ (j : Nat) (t : Stp), ts[j]? = some t → m (i + j) = true → named t.2 c = false) → noK c (mfold apK m i ts K) = true
  | [], _, _, _, h, _ => h
  | t :: ts, i, m, K, h, hm => by
    unfold mfold
    refine noK_fold ts (i + 1) m _ ?_ fun j u hj hu => hm (j + 1) u (by simpa using hj) (by rw [show i + (j + 1) = i + 1 + j by omega]; exact hu)
    split
    · rename_i hi
      have := hm 0 t rfl (by simpa using hi)
      simp only [named, Bool.or_eq_false_iff] at this
      unfold apK putK
      split
      · simp [noK, this.1, h]
      · exact h
    · exact h
theorem noB_drop {c : Nat} : ∀ (B : BL) (d : Nat), noB c B = true → noB c (dropB B d) = true
  | [], d, h => h
  | (t, v) :: B, d, h => by
    simp only [noB, Bool.and_eq_true] at h
    unfold dropB
    split
    · exact noB_drop B d h.2
    · simp [noB, h.1, noB_drop B d h.2]
theorem noB_apply {c : Nat} : ∀ (l : List (Nat × Option Ch)) (B : BL), chHas c l = false → noB c B = true → noB c (applyB l B) = true
  | [], B, _, h => h
  | (d, none) :: l, B, hl, h => by
    simp only [chHas, Bool.or_eq_false_iff] at hl
    exact noB_apply l _ hl.2 (noB_drop B d h)
  | (d, some ch) :: l, B, hl, h => by
    simp only [chHas, Bool.or_eq_false_iff] at hl
    exact noB_apply l _ hl.2 (by simp [noB, hl.1.1, hl.1.2, h])
theorem noB_fold {c : Nat} : ∀ (ts : List Stp) (i : Nat) (m : Nat → Bool) (B : BL), noB c B = true → (∀ (j : Nat) (t : Stp), ts[j]? = some t → m (i + j) = true → named t.2 c = false) → noB c (mfold apB m i ts B) = true
  | [], _, _, _, h, _ => h
  | t :: ts, i, m, B, h, hm => by
    unfold mfold
    refine noB_fold ts (i + 1) m _ ?_ fun j u hj hu => hm (j + 1) u (by simpa using hj) (by rw [show i + (j + 1) = i + 1 + j by omega]; exact hu)
    split
    · rename_i hi
      have := hm 0 t rfl (by simpa using hi)
      simp only [named, Bool.or_eq_false_iff] at this
      exact noB_apply _ _ this.2 h
    · exact h

/-! ### who comes ahead of whom -/
def Closed (all : List Oper) (m : Nat → Bool) : Prop := ∀ (j : Nat) (o : Oper), all[j]? = some o → m j = true → ∀ d ∈ depsOf o, m d = true
theorem ancs_sound (all : List Oper) : ∀ (l pre : List Oper) (acc : List (List Nat)), all = pre ++ l → acc.length = pre.length → (∀ j a, a ∈ acc.getD j [] → ∀ m, Closed all m → m j = true → m a = true) → ∀ j a, a ∈ (ancs l acc).getD j [] → ∀ m, Closed all m → m j = true → m a = true
  | [], pre, acc, _, _, h => h
  | o :: l, pre, acc, he, hl, h => by
    unfold ancs
    refine ancs_sound all l (pre ++ [o]) _ (by simp [he]) (by simp [hl]) ?_
    intro j a ha m hm hj
    rw [List.getD_eq_getElem?_getD] at ha
    rcases Nat.lt_trichotomy j acc.length with hlt | heq | hgt
    · rw [List.getElem?_append_left hlt, ← List.getD_eq_getElem?_getD] at ha
      exact h j a ha m hm hj
    · subst heq
      rw [List.getElem?_append_right (Nat.le_refl _)] at ha
      simp only [Nat.sub_self, List.getElem?_cons_zero, Option.getD_some, List.mem_append, List.mem_flatMap] at ha
      have ho : all[acc.length]? = some o := by rw [he, hl]; simp
      rcases ha with ha | ⟨d, hd, ha⟩
      · exact hm _ o ho hj a ha
      · exact h d a ha m hm (hm _ o ho hj d hd)
    · rw [List.getElem?_eq_none (by simp; omega)] at ha
      simp at ha
theorem pairs_get {all : List Oper} {an : List (List Nat)} : ∀ (L : List (Oper × Ent × Nat)), pairsOK all an L = true → ∀ (i j : Nat) (x y : Oper × Ent × Nat), i < j → L[i]? = some x → L[j]? = some y → ((an.getD y.2.2 []).contains x.2.2 && !y.2.1.e.nw.any (named x.2.1) || apart all x.1 y.1 x.2.1 y.2.1) = true
  | [], _, i, j, x, y, _, hx, _ => by simp at hx
  | z :: L, h, 0, j + 1, x, y, _, hx, hy => by
    simp only [List.getElem?_cons_zero, Option.some.injEq] at hx
    subst hx
    obtain ⟨o, n, i⟩ := z
    simp only [pairsOK, Bool.and_eq_true] at h
    have := List.all_eq_true.1 h.1 y (List.mem_of_getElem? (by simpa using hy))
    obtain ⟨p, m, j'⟩ := y
    exact this
  | z :: L, h, i + 1, j + 1, x, y, hlt, hx, hy => by
    obtain ⟨o, n, k⟩ := z
    simp only [pairsOK, Bool.and_eq_true] at h
    exact pairs_get L h.2 i j x y (by omega) (by simpa using hx) (by simpa using hy)
  | z :: L, h, i, 0, x, y, hlt, hx, hy => by omega
theorem meets_no {a b : List Nat} (h : meets a b = false) {x : Nat} (h1 : x ∈ a) (h2 : x ∈ b) : False := by
  unfold meets at h
  rw [List.any_eq_false] at h
  have := h x h1
  simp at this
  exact this h2
theorem any_no {a : List Nat} {f : Nat → Bool} (h : a.any f = false) {x : Nat} (h1 : x ∈ a) : f x = false := by
  rw [List.any_eq_false] at h
  simpa using h x h1

/-- What has been listed, and what may come: the facts for one operation that may come now. -/
theorem draw_step {all : List Oper} {K0 : KL} {B0 : BL} {ts : List Stp} (hts : ts.map (·.1) = all) (hall : allF P N ids all ts K0 B0) (hin : indep K0 B0 all ((ts.map (·.2)).reverse ++ []) = true) {m : Nat → Bool} (hm : Closed all m) {i : Nat} {t : Stp} (hi : ts[i]? = some t) (hmi : m i = false) (hrdy : ∀ d ∈ depsOf t.1, m d = true) :
    OpF P N ids all t (mfold apK m 0 ts K0) (mfold apB m 0 ts B0) ∧ (∀ s, look (mfold apK (fun j => m j || j == i) 0 ts K0) s = look (apK t (mfold apK m 0 ts K0)) s) ∧ (∀ s, lookB (mfold apB (fun j => m j || j == i) 0 ts B0) s = lookB (apB t (mfold apB m 0 ts B0)) s) ∧
    (∀ d ∈ depsOf t.1, d < i) := by
  simp only [indep, List.append_nil, List.reverse_reverse, Bool.and_eq_true] at hin
  obtain ⟨⟨hin1, hin2⟩, hin3⟩ := hin
  have hao : ∀ (j : Nat) (u : Stp), ts[j]? = some u → all[j]? = some u.1 := fun j u hj => by rw [← hts, List.getElem?_map, hj]; rfl
  have hL : ∀ (j : Nat) (u : Stp), ts[j]? = some u → (((all.zip (ts.map (·.2))).zipIdx).map fun ((o, n), i) => (o, n, i))[j]? = some (u.1, u.2, j) := fun j u hj => by
    have hz : (all.zip (ts.map (·.2)))[j]? = some (u.1, u.2) := by
      rw [List.getElem?_zip_eq_some]
      exact ⟨hao j u hj, by rw [List.getElem?_map, hj]; rfl⟩
    rw [List.getElem?_map, List.getElem?_zipIdx, hz]
    simp
  have hdeps : ∀ d ∈ depsOf t.1, d < i := fun d hd => by
    have hmem : (t.1, i) ∈ all.zipIdx := by
      rw [List.mem_iff_getElem?]
      exact ⟨i, by rw [List.getElem?_zipIdx, hao i t hi]; simp⟩
    have := List.all_eq_true.1 hin1 _ hmem
    have := List.all_eq_true.1 this d hd
    simpa [Nat.blt_eq] using this
  have hanc := ancs_sound all all [] [] (by simp) rfl (fun j a ha => by simp at ha)
  have hmi' : Closed all (fun j => m j || j == i) := fun j o ho hj d hd => by
    simp only [Bool.or_eq_true, beq_iff_eq] at hj ⊢
    rcases hj with hj | rfl
    · exact .inl (hm j o ho hj d hd)
    · rw [hao j t hi] at ho
      injection ho with ho
      subst ho
      exact .inl (hrdy d hd)
  -- earlier ones that are bound are listed; later ones that are bound are not
  have early : ∀ (j : Nat) (u : Stp), ts[j]? = some u → j < i → (apart all u.1 t.1 u.2 t.2 = true ∨ m j = true) ∧ t.2.e.nw.any (named u.2) = false := fun j u hj hlt => by
    have := pairs_get _ hin3 j i _ _ hlt (hL j u hj) (hL i t hi)
    simp only [Bool.or_eq_true, Bool.and_eq_true, Bool.not_eq_true', List.contains_iff_mem] at this
    rcases this with ⟨h1, h2⟩ | h
    · refine ⟨.inr ?_, h2⟩
      have := hanc i j h1 _ hmi' (by simp)
      simp only [Bool.or_eq_true, beq_iff_eq] at this
      rcases this with h | h
      · exact h
      · omega
    · refine ⟨.inl h, ?_⟩
      simp only [apart, Bool.and_eq_true, Bool.not_eq_true'] at h
      exact h.2
  have late : ∀ (j : Nat) (u : Stp), ts[j]? = some u → i < j → apart all t.1 u.1 t.2 u.2 = true ∨ m j = false := fun j u hj hlt => by
    have := pairs_get _ hin3 i j _ _ hlt (hL i t hi) (hL j u hj)
    simp only [Bool.or_eq_true, Bool.and_eq_true, List.contains_iff_mem] at this
    rcases this with ⟨h1, _⟩ | h
    · right
      cases hmj : m j with
      | false => rfl
      | true => have := hanc j i h1 m hm hmj; rw [hmi] at this; cases this
    · exact .inl h
  have sameK : ∀ s, s ∈ rdsOf all t.1 → look (mfold apK m 0 ts K0) s = look (mfold apK (fun j => decide (j < 0 + i)) 0 ts K0) s := fun s hs =>
    mfold_agree look apK tchK apK_1 apK_2 _ _ s ts 0 K0 K0 (fun j u hj hu => by
      rw [Nat.zero_add, Nat.zero_add]
      have hu' : s ∈ u.1.dst.toList := by rw [show u.1.dst = some s from hu]; simp
      rcases Nat.lt_trichotomy j i with h | h | h
      · simp only [h, decide_true]
        refine ((early j u hj h).1).resolve_left fun ha => ?_
        simp only [apart, Bool.and_eq_true, Bool.not_eq_true'] at ha
        exact meets_no ha.1.1.1.1.1 hu' (List.mem_append_left _ hs)
      · subst h; simp [hmi]
      · rw [show decide (j < i) = false by simp; omega]
        refine (late j u hj h).resolve_left fun ha => ?_
        simp only [apart, Bool.and_eq_true, Bool.not_eq_true'] at ha
        exact meets_no ha.1.1.1.1.2 hu' hs) rfl
  have sameB : ∀ c, c ∈ t.2.e.rc → lookB (mfold apB m 0 ts B0) c = lookB (mfold apB (fun j => decide (j < 0 + i)) 0 ts B0) c := fun c hc =>
    mfold_agree lookB apB tchB (fun t x s h => applyB_1 _ _ _ h) (fun t x y s h => applyB_2 _ _ _ _ h) _ _ c ts 0 B0 B0 (fun j u hj hu => by
      rw [Nat.zero_add, Nat.zero_add]
      rcases Nat.lt_trichotomy j i with h | h | h
      · simp only [h, decide_true]
        refine ((early j u hj h).1).resolve_left fun ha => ?_
        simp only [apart, Bool.and_eq_true, Bool.not_eq_true'] at ha
        exact meets_no ha.1.1.1.2 hu (List.mem_append_left _ hc)
      · subst h; simp [hmi]
      · rw [show decide (j < i) = false by simp; omega]
        refine (late j u hj h).resolve_left fun ha => ?_
        simp only [apart, Bool.and_eq_true, Bool.not_eq_true'] at ha
        exact meets_no ha.1.1.2 hu hc) rfl
  refine ⟨?_, fun s => ?_, fun s => ?_, hdeps⟩
  · have hop := allF_get ts 0 K0 B0 hall i t hi
    have hw : wants all (mfold apK m 0 ts K0) t.1.guard = wants all (mfold apK (fun j => decide (j < 0 + i)) 0 ts K0) t.1.guard := by
      unfold wants
      cases hg : t.1.guard with
      | none => rfl
      | some p =>
        obtain ⟨j, want⟩ := p
        simp only
        cases hs : gslot all j with
        | none => rfl
        | some s =>
          simp only
          rw [sameK s (by unfold rdsOf; rw [hg]; simp [hs])]
    rcases hop with ⟨h1, h2, h3⟩ | ⟨h1, h2, h3⟩
    · exact .inl ⟨hw.trans h1, h2, h3⟩
    · refine .inr ⟨hw.trans h1, ?_, fun c hc => ?_⟩
      · intro K' B' g1 g2 g3
        refine h2 K' B' (fun x hx => (g1 x hx).trans ?_) (fun c hc => (g2 c hc).trans (sameB c hc)) g3
        cases x with
        | tmp s => exact sameK s (List.mem_append_left _ (List.mem_filterMap.2 ⟨.tmp s, by simpa using hx, rfl⟩))
        | _ => rfl
      · have hf := h3 c hc
        simp only [freshB, Bool.and_eq_true] at hf ⊢
        have hn0 := List.all_eq_true.1 hin2 t.2 (List.mem_map.2 ⟨t, List.mem_of_getElem? hi, rfl⟩)
        have hn0 := List.all_eq_true.1 hn0 c hc
        simp only [Bool.and_eq_true] at hn0
        have hno : ∀ (j : Nat) (u : Stp), ts[j]? = some u → m (0 + j) = true → named u.2 c = false := fun j u hj hmj => by
          rw [Nat.zero_add] at hmj
          rcases Nat.lt_trichotomy j i with h | h | h
          · exact any_no (early j u hj h).2 hc
          · subst h; rw [hmi] at hmj; cases hmj
          · rcases late j u hj h with ha | ha
            · simp only [apart, Bool.and_eq_true, Bool.not_eq_true'] at ha
              exact any_no ha.1.2 hc
            · rw [hmj] at ha; cases ha
        exact ⟨⟨noK_fold ts 0 m K0 hn0.1 hno, noB_fold ts 0 m B0 hn0.2 hno⟩, hf.2⟩
  · have := mfold_more look apK tchK apK_1 apK_2 m i s ts 0 K0 t hi (by simpa using hmi) (fun j u hlt hj hmj h1 h2 => by
      rw [Nat.zero_add] at hmj
      rcases late j u hj hlt with ha | ha
      · simp only [apart, Bool.and_eq_true, Bool.not_eq_true'] at ha
        exact meets_no (x := s) ha.1.1.1.1.1 (by rw [show t.1.dst = some s from h1]; simp) (List.mem_append_right _ (by rw [show u.1.dst = some s from h2]; simp))
      · rw [hmj] at ha; cases ha)
    simpa using this
  · have := mfold_more lookB apB tchB (fun t x s h => applyB_1 _ _ _ h) (fun t x y s h => applyB_2 _ _ _ _ h) m i s ts 0 B0 t hi (by simpa using hmi) (fun j u hlt hj hmj h1 h2 => by
      rw [Nat.zero_add] at hmj
      rcases late j u hj hlt with ha | ha
      · simp only [apart, Bool.and_eq_true, Bool.not_eq_true'] at ha
        exact meets_no ha.1.1.1.2 h1 (List.mem_append_right _ h2)
      · rw [hmj] at ha; cases ha)
    simpa using this
theorem drawOK (hP : TblOK P tt) : DrawOK P tt N ids := by
  intro id ops K0 B0 k hd hmix h C a w hs Q hQ
  refine wp_region_any hmix ?_
  obtain ⟨ts, hts, hall, hin, hk⟩ := vcs_steps (N := N) hP ops.toList ops.toList 0 K0 B0 [] _ h
  have hlen : ts.length = ops.size := by
    have := congrArg List.length hts
    simpa using this
  have hao : ∀ (j : Nat) (u : Stp), ts[j]? = some u → ops.toList[j]? = some u.1 := fun j u hj => by rw [← hts, List.getElem?_map, hj]; rfl
  have hlt : ∀ (j : Nat) (u : Stp), ts[j]? = some u → ∀ d, u.1.dst = some d → d < N := fun j u hj d hdd => by
    have key : ∀ (l : List Oper), dstOK N l = true → ∀ o ∈ l, ∀ d, o.dst = some d → d < N := fun l => by
      induction l with
      | nil => intro _ o ho; cases ho
      | cons x l ih =>
        intro hx o ho d hd
        simp only [dstOK, Bool.and_eq_true] at hx
        rcases List.mem_cons.1 ho with rfl | ho
        · rw [hd] at hx; simpa [Nat.blt_eq] using hx.1
        · exact ih hx.2 o ho d hd
    exact key _ hd u.1 (List.mem_of_getElem? (hao j u hj)) d hdd
  have main : ∀ (fuel : Nat) (listed : Array Bool) (a : Act) (w : World), listed.size = ops.size → listed.toList.count false ≤ fuel → Closed ops.toList (fun j => listed.getD j false) →
      Sat N ids C (mfold apK (fun j => listed.getD j false) 0 ts K0) (mfold apB (fun j => listed.getD j false) 0 ts B0) a w → wpAny P .any ops Q fuel listed a w := by
    intro fuel
    have done : ∀ (listed : Array Bool) (a : Act) (w : World), listed.size = ops.size → (∀ j, j < ops.size → listed.getD j false = true) → Sat N ids C (mfold apK (fun j => listed.getD j false) 0 ts K0) (mfold apB (fun j => listed.getD j false) 0 ts B0) a w → Q .normal a w := fun listed a w hsz hfull hs' => by
      rw [← runK_fold ts 0 _ K0 (fun j hj => by simpa using hfull j (by omega)), ← runB_fold ts 0 _ B0 (fun j hj => by simpa using hfull j (by omega))] at hs'
      exact hQ _ _ hk a w hs'
    have noready : ∀ (listed : Array Bool), listed.size = ops.size → Closed ops.toList (fun j => listed.getD j false) → Region.ready .any ops listed = [] → ∀ j, j < ops.size → listed.getD j false = true := fun listed hsz hcl hr => by
      intro j
      induction j using Nat.strongRecOn with
      | _ j ih =>
        intro hj
        obtain ⟨u, hu⟩ : ∃ u, ts[j]? = some u := ⟨_, List.getElem?_eq_getElem (by omega)⟩
        cases hlj : listed.getD j false with
        | true => rfl
        | false =>
          exfalso
          have hmem : j ∈ Region.ready .any ops listed := by
            unfold Region.ready
            rw [List.mem_filter]
            refine ⟨List.mem_range.2 hj, ?_⟩
            have hjl : listed.getD j true = false := by
              rw [Array.getD_eq_getD_getElem?] at hlj ⊢
              rw [Array.getElem?_eq_getElem (by omega)] at hlj ⊢
              simpa using hlj
            have ho : ops[j]? = some u.1 := by simpa using hao j u hu
            simp only [hjl, Bool.not_false, Bool.true_and, ho, Option.map_some, Option.getD_some]
            rw [Array.all_eq_true_iff_forall_mem]
            intro e he
            cases hb : Region.binds .any e with
            | false => rfl
            | true =>
              simp only [Bool.not_true, Bool.false_or]
              have hdj : e.on ∈ depsOf u.1 := by
                unfold depsOf
                exact List.mem_map.2 ⟨e, List.mem_filter.2 ⟨by simpa using he, hb⟩, rfl⟩
              have hlt' : e.on < j := by
                have hi1 := hin
                simp only [indep, List.append_nil, List.reverse_reverse, Bool.and_eq_true] at hi1
                have hmem : (u.1, j) ∈ ops.toList.zipIdx := by
                  rw [List.mem_iff_getElem?]
                  exact ⟨j, by rw [List.getElem?_zipIdx, hao j u hu]; simp⟩
                have := List.all_eq_true.1 hi1.1.1 _ hmem
                have := List.all_eq_true.1 this _ hdj
                simpa [Nat.blt_eq] using this
              exact ih e.on hlt' (by omega)
          rw [hr] at hmem
          cases hmem
    induction fuel with
    | zero =>
      intro listed a w hsz hc hcl hs'
      have hfull : ∀ j, j < ops.size → listed.getD j false = true := fun j hj => by
        cases hlj : listed.getD j false with
        | true => rfl
        | false =>
          exfalso
          have hmem : false ∈ listed.toList := by
            rw [Array.getD_eq_getD_getElem?, Array.getElem?_eq_getElem (by omega)] at hlj
            simp only [Option.getD_some] at hlj
            rw [← hlj]
            simp
          have := List.count_pos_iff.2 hmem
          omega
      refine ⟨?_, done listed a w hsz hfull hs'⟩
      unfold Region.ready
      rw [List.filter_eq_nil_iff]
      intro j hj
      have hj := List.mem_range.1 hj
      have := hfull j hj
      rw [Array.getD_eq_getD_getElem?, Array.getElem?_eq_getElem (by omega)] at this
      simp only [Option.getD_some] at this
      simp [Array.getElem?_eq_getElem (show j < listed.size by omega), this]
    | succ fuel ih =>
      intro listed a w hsz hc hcl hs'
      refine ⟨fun hr => done listed a w hsz (noready listed hsz hcl hr) hs', fun i hi => ?_⟩
      obtain ⟨hun, o, ho, hdep⟩ := mem_ready.1 hi
      have hib : i < ops.size := (Array.getElem?_eq_some_iff.1 ho).1
      obtain ⟨t, ht⟩ : ∃ t, ts[i]? = some t := ⟨_, List.getElem?_eq_getElem (by omega)⟩
      have hot : o = t.1 := by
        have := hao i t ht
        rw [Array.getElem?_toList, ho] at this
        injection this
      subst hot
      have hli : listed.getD i false = false := by
        rw [Array.getD_eq_getD_getElem?, Array.getElem?_eq_getElem (by omega)] at hun ⊢
        simpa using hun
      have hrdy : ∀ d ∈ depsOf t.1, listed.getD d false = true := fun d hd => by
        unfold depsOf at hd
        obtain ⟨e, he, rfl⟩ := List.mem_map.1 hd
        obtain ⟨he1, he2⟩ := List.mem_filter.1 he
        exact hdep e (by simpa using he1) he2
      obtain ⟨hop, hmK, hmB, _⟩ := draw_step (m := fun j => listed.getD j false) hts hall hin hcl ht hli hrdy
      have hset : (fun j => (listed.setIfInBounds i true).getD j false) = (fun j => (listed.getD j false || j == i)) := by
        funext j
        by_cases e : j = i
        · subst e
          simp [Array.getElem?_setIfInBounds, show j < listed.size by omega]
        · simp [Array.getElem?_setIfInBounds, Ne.symm e, e]
      have hcl' : Closed ops.toList (fun j => (listed.setIfInBounds i true).getD j false) := by
        rw [hset]
        intro j o' ho' hj d hd
        simp only [Bool.or_eq_true, beq_iff_eq] at hj ⊢
        rcases hj with hj | rfl
        · exact .inl (hcl j o' ho' hj d hd)
        · rw [hao j t ht] at ho'
          injection ho' with ho'
          subst ho'
          exact .inl (hrdy d hd)
      have hcnt : (listed.setIfInBounds i true).toList.count false ≤ fuel := by
        rw [Array.toList_setIfInBounds, List.count_set (by simp; omega)]
        have hget : listed.toList[i]'(by simp; omega) = false := by
          rw [Array.getD_eq_getD_getElem?, Array.getElem?_eq_getElem (by omega)] at hli
          simpa using hli
        rw [hget]
        simp only [BEq.rfl, if_true, show (true == false) = false from rfl, Bool.false_eq_true, if_false]
        omega
      have next : ∀ a' w', Sat N ids C (apK t (mfold apK (fun j => listed.getD j false) 0 ts K0)) (apB t (mfold apB (fun j => listed.getD j false) 0 ts B0)) a' w' → wpAny P .any ops Q fuel (listed.setIfInBounds i true) a' w' := fun a' w' hs2 => by
        refine ih _ a' w' (by simp [hsz]) hcnt hcl' ?_
        rw [hset]
        exact hs2.congr hmK hmB
      have hs'' := hs'
      obtain ⟨_, _, ρ, F, hM, hS⟩ := hs''
      unfold wpOp
      simp only [ho]
      rcases hop with ⟨hw, hv, he⟩ | ⟨hw, hO, hf⟩
      · have hww := wants_sound hw hS
        simp only [Array.toArray_toList] at hww
        rw [if_neg (by rw [hww]; simp)]
        refine next _ _ ?_
        have := hs'.undef t.1.dst (hlt i t ht)
        unfold apK apB
        rw [hv, he]
        exact this
      · have hww := wants_sound hw hS
        simp only [Array.toArray_toList] at hww
        rw [if_pos hww]
        exact .inl (hO _ _ (fun _ _ => rfl) (fun _ _ => rfl) hf C a w hs' (hlt i t ht) _ Q fun a' w' hs2 => next a' w' hs2)
  refine main ops.size _ a _ (by simp) (by simp [List.count_replicate]) (fun j o ho hj => ?_) ?_
  · simp only [Array.getD_eq_getD_getElem?, Array.getElem?_replicate] at hj
    split at hj <;> simp at hj
  · have hz : (fun j => (Array.replicate ops.size false).getD j false) = fun _ => false := by
      funext j
      rw [Array.getD_eq_getD_getElem?]
      simp only [Array.getElem?_replicate]
      split <;> rfl
    rw [hz]
    have e3 : ∀ {σ : Type} (ap : Stp → σ → σ) (l : List Stp) (q : Nat) (y : σ), mfold ap (fun _ => false) q l y = y := fun {σ} ap l => by
      induction l with
      | nil => exact fun _ _ => rfl
      | cons v l ih => intro q y; unfold mfold; simp [ih]
    rw [e3, e3]
    obtain ⟨h1, h2, ρ, F, hM, hS⟩ := hs
    obtain ⟨hM', hE⟩ := hM.below (w' := { w with drawn := w.drawn + 1 }) (drew_below w)
    exact ⟨h1, h2, ρ, F, hM', hS.mono hE fun _ _ _ => rfl⟩
end
end Go.Proofs.Ythghcdddambaeaa
