/-
Part 8 of the proof that stands in YteoamepgonpdlaaGreatPaRow, with what it needs from the parts ahead; the parts of this text: Grp, Cd, Gx, Rf, Rg, Ad, Ar.
-/
import Derived.Maps.RangeRun
import Derived.DeepKeys
import Derived.Laws.MakeOwn
import Derived.Laws.StructEq
import Derived.Test.YteoamepgonpdlaaGreatPa7
/-!
  Objects: several blocks as one; a pool of objects by their addresses.
-/
namespace Go.Proofs.YteoamepgonpdlaaGreat
set_option linter.unusedVariables false
set_option linter.unusedSimpArgs false
open Go.RowKit
/-- Several blocks, numbered within; c is where it begins. -/
def grpR (c : Nat) (Bl : BL) (I F : Nat → Prop) (w : World) (p : Pl) : Prop :=
 ∃ (ρ : Nat → Pl) (G : Nat → Nat → Prop), ρ c = p ∧ (∀ d ch, lookB Bl d = some ch → Holds ρ I (G d) w (ρ d) ch) ∧
   (∀ d d' ch ch' b, lookB Bl d = some ch → lookB Bl d' = some ch' → d ≠ d' → G d b → ¬ G d' b) ∧ ∀ b, F b ↔ ∃ d ch, lookB Bl d = some ch ∧ G d b
def Ob.grp (c : Nat) (Bl : BL) : Ob where
 R := grpR c Bl
 stable := fun I F w I' w' p ⟨ρ, G, h1, h2, h3, h4⟩ he hF hz => ⟨ρ, G, h1, fun d ch hd => Holds.stable he (fun b hb => hF b ((h4 b).2 ⟨d, ch, hd, hb⟩)) hz ch (fun _ _ => rfl) (h2 d ch hd), h3, h4⟩
/-- .. that lies at b. -/
def Ob.at (o : Ob) (b : Nat) : Ob where
 R := fun I F w p => p.blk = b ∧ o.R I F w p
 stable := fun I F w I' w' p h he hF hz => ⟨h.1, o.stable I F w I' w' p h.2 he hF hz⟩
def Ob.le (o o' : Ob) : Prop := ∀ I F w p, o.R I F w p → o'.R I F w p
/-- A pool of objects, by their addresses. -/
def poolR (I : Nat → Prop) (w : World) : List (Nat × Ob) → (Nat → Prop) → Prop
 | [], F => ∀ b, ¬ F b
 | (a, o) :: L, F => ∃ (F1 F2 : Nat → Prop) (p : Pl), (∀ b, F b ↔ F1 b ∨ F2 b) ∧ (∀ b, F1 b → ¬ F2 b) ∧ p.blk = a ∧ o.R I F1 w p ∧ poolR I w L F2
theorem poolR.stable {I I' : Nat → Prop} {w w' : World} (he : Ext I w I' w') (hz : w.heap.size ≤ w'.heap.size) : ∀ {L : List (Nat × Ob)} {F : Nat → Prop}, (∀ b, F b → w'.heap[b]? = w.heap[b]?) → poolR I w L F → poolR I' w' L F
 | [], _, _, h => h
 | (a, o) :: L, F, hF, ⟨F1, F2, p, h1, h2, h3, h4, h5⟩ => ⟨F1, F2, p, h1, h2, h3, o.stable _ _ _ _ _ _ h4 he (fun b hb => hF b ((h1 b).2 (.inl hb))) hz, h5.stable he hz (fun b hb => hF b ((h1 b).2 (.inr hb)))⟩
def Ob.pool (L : List (Nat × Ob)) : Ob where
 R := fun I F w _ => poolR I w L F
 stable := fun I F w I' w' p h he hF hz => h.stable he hz hF
def pget : List (Nat × Ob) → Nat → Option Ob
 | [], _ => none
 | (a, o) :: L, b => if a = b then some o else pget L b
def pset : List (Nat × Ob) → Nat → Ob → List (Nat × Ob)
 | [], _, _ => []
 | (a, o) :: L, b, o' => if a = b then (a, o') :: L else (a, o) :: pset L b o'
/-- One taken out; and put back, turned. -/
theorem poolR.out {I : Nat → Prop} {w : World} {b : Nat} {o : Ob} : ∀ {L : List (Nat × Ob)} {F : Nat → Prop}, pget L b = some o → poolR I w L F → ∃ (F1 F2 : Nat → Prop) (p : Pl), (∀ x, F x ↔ F1 x ∨ F2 x) ∧ (∀ x, F1 x → ¬ F2 x) ∧ p.blk = b ∧ o.R I F1 w p ∧
   ∀ (I' : Nat → Prop) (w' : World) (o' : Ob) (F1' : Nat → Prop) (p' : Pl), Ext I w I' w' → w.heap.size ≤ w'.heap.size → (∀ x, F2 x → w'.heap[x]? = w.heap[x]?) → p'.blk = b → o'.R I' F1' w' p' → (∀ x, F1' x → ¬ F2 x) → poolR I' w' (pset L b o') (fun x => F1' x ∨ F2 x)
 | [], F, h, _ => by cases h
 | (a, q) :: L, F, h, ⟨G1, G2, p, h1, h2, h3, h4, h5⟩ => by
   unfold pget at h
   split at h
   · rename_i e
     injection h with h
     subst h
     refine ⟨G1, G2, p, h1, h2, h3.trans e, h4, fun I' w' o' F1' p' he hz hf hp ho hd => ?_⟩
     unfold pset
     rw [if_pos e]
     exact ⟨F1', G2, p', fun x => Iff.rfl, hd, hp.trans e.symm, ho, h5.stable he hz hf⟩
   · rename_i e
     obtain ⟨F1, F2, p1, g1, g2, g3, g4, g5⟩ := poolR.out h h5
     refine ⟨F1, fun x => G1 x ∨ F2 x, p1, fun x => ?_, fun x hx => ?_, g3, g4, fun I' w' o' F1' p' he hz hf hp ho hd => ?_⟩
     · rw [h1, g1]
       constructor
       · rintro (h | h | h)
         · exact .inr (.inl h)
         · exact .inl h
         · exact .inr (.inr h)
       · rintro (h | h | h)
         · exact .inr (.inl h)
         · exact .inl h
         · exact .inr (.inr h)
     · rintro (h | h)
       · exact h2 x h ((g1 x).2 (.inl hx))
       · exact g2 x hx h
     · unfold pset
       rw [if_neg e]
       refine ⟨G1, fun x => F1' x ∨ F2 x, p, fun x => ?_, fun x hx => ?_, h3, q.stable _ _ _ _ _ _ h4 he (fun x hx => hf x (.inl hx)) hz, g5 I' w' o' F1' p' he hz (fun x hx => hf x (.inr hx)) hp ho (fun x hx h => hd x hx (.inr h))⟩
       · constructor
         · rintro (h | h | h)
           · exact .inr (.inl h)
           · exact .inl h
           · exact .inr (.inr h)
         · rintro (h | h | h)
           · exact .inr (.inl h)
           · exact .inl h
           · exact .inr (.inr h)
       · rintro (h | h)
         · exact hd x h (.inl hx)
         · exact h2 x hx ((g1 x).2 (.inr h))
/-- A new one put in. -/
theorem poolR.add {I : Nat → Prop} {w : World} {L : List (Nat × Ob)} {F F1 : Nat → Prop} {o : Ob} {p : Pl} (h : poolR I w L F) (ho : o.R I F1 w p) (hd : ∀ x, F1 x → ¬ F x) : poolR I w ((p.blk, o) :: L) (fun x => F1 x ∨ F x) :=
 ⟨F1, F, p, fun _ => Iff.rfl, hd, rfl, ho, h⟩
theorem FnX.fn {P : Program} {f : FuncId} {args : List SV} {Bi : BL} {nw : List Nat} {res : SV} {Bo : BL} (h : FnX P f args Bi nw (fun _ : Unit => res) (fun _ => Bo)) : Fn P f args Bi nw res Bo :=
 ⟨h.1, fun ρ F I w vals a1 a2 a3 a4 a5 a6 => (h.2 ρ F I w vals a1 a2 a3 a4 a5 a6).mono fun e w' ⟨_, q⟩ => q⟩
/-- A contract on one of a pool. -/
theorem FnX.pool {P : Program} {f : FuncId} {c q b : Nat} {args : List SV} {Bi : BL} {nw : List Nat} {X : Type} {res : X → SV} {Bo : X → BL} {o : Ob} {o' : X → Ob} {L : List (Nat × Ob)}
   (h : FnX P f (.c (.one (.ptr c 0)) :: args) ((c, .obj o) :: Bi) nw res (fun g => (c, .obj (o' g)) :: Bo g)) (hL : pget L b = some o)
   (h1 : (args.all fun v => !v.has c) = true) (h2 : noB c Bi = true ∧ (lookB Bi q).isNone = true) (h3 : (nw.contains c || nw.contains q) = false) (h4 : ∀ g, (noB c (Bo g) && (lookB (Bo g) q).isNone && !(res g).has c) = true) :
   FnX P f (.c (.one (.d (.adr (some b)))) :: args) ((q, .obj (.pool L)) :: Bi) nw res (fun g => (q, .obj (.pool (pset L b (o' g)))) :: Bo g) := by
 obtain ⟨hcall, h⟩ := h
 refine ⟨hcall, fun ρ F I w vals hI hH hF hdj hlen hden => ?_⟩
 have hq : lookB ((q, Ch.obj (.pool L)) :: Bi) q = some (.obj (.pool L)) := by rw [lookB_cons, if_pos rfl]
 have hP : poolR I w L (F q) := hH q _ hq
 obtain ⟨F1, F2, p, k1, k2, k3, k4, k5⟩ := hP.out hL
 obtain ⟨nb1, nb2⟩ := noB_has h2.1
 have hqn : lookB Bi q = none := by simpa using h2.2
 have hBi : ∀ {d ch}, lookB Bi d = some ch → d ≠ q ∧ d ≠ c ∧ lookB ((q, Ch.obj (.pool L)) :: Bi) d = some ch := fun {d ch} hd => by
   have e1 : d ≠ q := fun e => by rw [e, hqn] at hd; cases hd
   exact ⟨e1, fun e => (by rw [e, nb1] at hd; cases hd), by rw [lookB_cons, if_neg (Ne.symm e1)]; exact hd⟩
 have hρ0 : ∀ (v : SV), v.has c = false → ∀ d, v.has d = true → upd ρ c p d = ρ d := fun v hv d hd => upd_other _ _ (fun e => by rw [e, hv] at hd; cases hd)
 match vals, hlen with
 | v0 :: vals, hlen =>
   have hv0 : v0 = .pointer (some ⟨b, 0, none⟩) := hden 0 _ v0 rfl rfl
   have hcase : ∀ {d ch}, lookB ((c, Ch.obj o) :: Bi) d = some ch → (d = c ∧ ch = .obj o) ∨ (d ≠ c ∧ lookB Bi d = some ch) := fun {d ch} hd => by
     rw [lookB_cons] at hd
     split at hd
     · rename_i e; injection hd with hd; exact .inl ⟨e.symm, hd.symm⟩
     · rename_i e; exact .inr ⟨Ne.symm e, hd⟩
   refine (h (upd ρ c p) (upd F c F1) I w (v0 :: vals) hI ?_ ?_ ?_ (by simpa using hlen) ?_).mono ?_
   · intro d ch hd
     rcases hcase hd with ⟨rfl, rfl⟩ | ⟨e, hd⟩
     · rw [upd_same, upd_same]; exact k4
     · rw [upd_other _ _ e, upd_other _ _ e]
       exact Holds.stable (Ext.refl _ _) (fun _ _ => rfl) (Nat.le_refl _) ch (fun j hj => upd_other _ _ (fun e' => by rw [e', nb2 d ch hd] at hj; cases hj)) (hH d ch (hBi hd).2.2)
   · intro d ch hd x hx
     rcases hcase hd with ⟨rfl, rfl⟩ | ⟨e, hd⟩
     · rw [upd_same] at hx
       exact hF q _ hq x ((k1 x).2 (.inl hx))
     · rw [upd_other _ _ e] at hx
       exact hF d ch (hBi hd).2.2 x hx
   · intro d d' ch ch' x hd hd' hne hx hx'
     rcases hcase hd with ⟨ed, _⟩ | ⟨e, hdb⟩
     · rcases hcase hd' with ⟨ed', _⟩ | ⟨e', hdb'⟩
       · exact hne (ed.trans ed'.symm)
       · rw [ed, upd_same] at hx
         rw [upd_other _ _ e'] at hx'
         exact hdj q d' _ ch' x hq (hBi hdb').2.2 (Ne.symm (hBi hdb').1) ((k1 x).2 (.inl hx)) hx'
     · rw [upd_other _ _ e] at hx
       rcases hcase hd' with ⟨ed', _⟩ | ⟨e', hdb'⟩
       · rw [ed', upd_same] at hx'
         exact hdj q d _ ch x hq (hBi hdb).2.2 (Ne.symm (hBi hdb).1) ((k1 x).2 (.inl hx')) hx
       · rw [upd_other _ _ e'] at hx'
         exact hdj d d' ch ch' x (hBi hdb).2.2 (hBi hdb').2.2 hne hx hx'
   · intro i v x hv hx
     match i with
     | 0 =>
       simp only [List.getElem?_cons_zero, Option.some.injEq] at hv hx
       subst hv hx
       show v0 = _
       rw [upd_same, k3]
       exact hv0
     | i + 1 =>
       have hv' : args[i]? = some v := by simpa using hv
       have := List.all_eq_true.1 h1 v (List.mem_of_getElem? hv')
       exact DenV.mono (Ext.refl _ _) v x (hρ0 v (by simpa using this)) (hden (i + 1) v x (by simpa using hv) hx)
   · rintro e w' ⟨g, x, ρ', F', rfl, hfr, hρ, I', he1, he2, hH', hO, hDj, hden'⟩
     have hg := h4 g
     simp only [Bool.and_eq_true, Bool.not_eq_true'] at hg
     obtain ⟨⟨g1, g2⟩, g3⟩ := hg
     obtain ⟨m1, m2⟩ := noB_has g1
     have hqo : lookB (Bo g) q = none := by simpa using g2
     simp only [Bool.or_eq_false_iff] at h3
     have hcn : c ∉ nw := fun hh => by have := List.contains_iff_mem.2 hh; rw [h3.1] at this; cases this
     have hqn' : q ∉ nw := fun hh => by have := List.contains_iff_mem.2 hh; rw [h3.2] at this; cases this
     have hcc : lookB ((c, Ch.obj (o' g)) :: Bo g) c = some (.obj (o' g)) := by rw [lookB_cons, if_pos rfl]
     have hBo : ∀ {d ch}, lookB (Bo g) d = some ch → d ≠ c ∧ d ≠ q ∧ lookB ((c, Ch.obj (o' g)) :: Bo g) d = some ch := fun {d ch} hd => by
       have e1 : d ≠ c := fun e => by rw [e, m1] at hd; cases hd
       exact ⟨e1, fun e => (by rw [e, hqo] at hd; cases hd), by rw [lookB_cons, if_neg (Ne.symm e1)]; exact hd⟩
     have hFr : ∀ y, (∃ d ch, lookB ((c, Ch.obj o) :: Bi) d = some ch ∧ upd F c F1 d y) → ∃ d ch, lookB ((q, Ch.obj (.pool L)) :: Bi) d = some ch ∧ F d y := by
       rintro y ⟨d, ch, hd, hy⟩
       rcases hcase hd with ⟨rfl, rfl⟩ | ⟨e, hd⟩
       · rw [upd_same] at hy
         exact ⟨q, _, hq, (k1 y).2 (.inl hy)⟩
       · rw [upd_other _ _ e] at hy
         exact ⟨d, ch, (hBi hd).2.2, hy⟩
     have hF2 : ∀ y, F2 y → ¬ ∃ d ch, lookB ((c, Ch.obj o) :: Bi) d = some ch ∧ upd F c F1 d y := by
       rintro y hy ⟨d, ch, hd, hy'⟩
       rcases hcase hd with ⟨rfl, rfl⟩ | ⟨e, hd⟩
       · rw [upd_same] at hy'
         exact k2 y hy' hy
       · rw [upd_other _ _ e] at hy'
         exact hdj q d _ ch y hq (hBi hd).2.2 (Ne.symm (hBi hd).1) ((k1 y).2 (.inr hy)) hy'
     have hF2s : ∀ y, F2 y → y < w.heap.size ∧ ¬ I y := fun y hy => hF q _ hq y ((k1 y).2 (.inr hy))
     have hold : ∀ y, F2 y → w'.heap[y]? = w.heap[y]? := fun y hy => hfr.block y (hF2s y hy).1 (hF2 y hy)
     have hnot : ∀ d ch y, lookB ((c, Ch.obj (o' g)) :: Bo g) d = some ch → F' d y → ¬ F2 y := fun d ch y hd hy h2y => by
       rcases (hO d ch hd y hy).2.2 with h | h
       · exact hF2 y h2y h
       · have := (hF2s y h2y).1; omega
     have hρc : ρ' c = p := by rw [hρ c hcn, upd_same]
     have hnew := k5 I' w' (o' g) (F' c) (ρ' c) he1 hfr.size hold (by rw [hρc]; exact k3) (hH' c _ hcc) (fun y hy => hnot c _ y hcc hy)
     refine ⟨g, x, upd ρ' c (ρ c), fun d => if d = q then (fun y => F' c y ∨ F2 y) else F' d, rfl, hfr.mono fun y _ hy => hFr y hy, fun d hd => ?_, I', he1, fun y hy => ⟨(he2 y hy).1, ?_⟩, ?_, ?_, ?_, ?_⟩
     · by_cases e : d = c
       · subst e; rw [upd_same]
       · rw [upd_other _ _ e, hρ d hd, upd_other _ _ e]
     · rcases (he2 y hy).2 with h | h | h
       · exact .inl h
       · exact .inr (.inl (hFr y h))
       · exact .inr (.inr h)
     · intro d ch hd
       rw [lookB_cons] at hd
       split at hd
       · rename_i e
         injection hd with hd
         subst hd e
         simp only [if_true]
         exact hnew
       · rename_i e
         obtain ⟨e1, e2, e3⟩ := hBo hd
         simp only [if_neg e2]
         rw [upd_other _ _ e1]
         exact Holds.stable (Ext.refl _ _) (fun _ _ => rfl) (Nat.le_refl _) ch (fun j hj => upd_other _ _ (fun e' => by rw [e', m2 d ch hd] at hj; cases hj)) (hH' d ch e3)
     · intro d ch hd y hy
       rw [lookB_cons] at hd
       split at hd
       · rename_i e
         subst e
         simp only [if_true] at hy
         rcases hy with hy | hy
         · obtain ⟨a1, a2, a3⟩ := hO c _ hcc y hy
           exact ⟨a1, a2, a3.imp (hFr y) id⟩
         · refine ⟨Nat.lt_of_lt_of_le (hF2s y hy).1 hfr.size, fun hi => ?_, .inl ⟨q, _, hq, (k1 y).2 (.inr hy)⟩⟩
           rcases (he2 y hi).2 with h | h | h
           · exact (hF2s y hy).2 h
           · exact hF2 y hy h
           · have := (hF2s y hy).1; omega
       · obtain ⟨e1, e2, e3⟩ := hBo hd
         simp only [if_neg e2] at hy
         obtain ⟨a1, a2, a3⟩ := hO d ch e3 y hy
         exact ⟨a1, a2, a3.imp (hFr y) id⟩
     · intro d d' ch ch' y hd hd' hne hy hy'
       rw [lookB_cons] at hd hd'
       split at hd
       · rename_i e
         subst e
         rw [if_neg hne] at hd'
         obtain ⟨e1, e2, e3⟩ := hBo hd'
         simp only [if_true] at hy
         simp only [if_neg e2] at hy'
         rcases hy with hy | hy
         · exact hDj c d' _ ch' y hcc e3 (Ne.symm e1) hy hy'
         · exact hnot d' ch' y e3 hy' hy
       · obtain ⟨e1, e2, e3⟩ := hBo hd
         simp only [if_neg e2] at hy
         split at hd'
         · rename_i e
           subst e
           simp only [if_true] at hy'
           rcases hy' with hy' | hy'
           · exact hDj d c ch _ y e3 hcc e1 hy hy'
           · exact hnot d ch y e3 hy hy'
         · obtain ⟨e1', e2', e3'⟩ := hBo hd'
           simp only [if_neg e2'] at hy'
           exact hDj d d' ch ch' y e3 e3' hne hy hy'
     · exact DenV.mono (Ext.refl _ _) (res g) x (fun j hj => upd_other _ _ (fun e' => by rw [e', g3] at hj; cases hj)) hden'
theorem lookB_app : ∀ (B B' : BL) (c : Nat), lookB (B ++ B') c = (match lookB B c with
   | some ch => some ch
   | none => lookB B' c)
 | [], B', c => rfl
 | (d, ch) :: B, B', c => by
   rw [List.cons_append, lookB_cons, lookB_cons, lookB_app B B' c]
   split <;> rfl
def noneIn (l : List Nat) : BL → Bool
 | [] => true
 | (c, ch) :: B => !l.contains c && (l.all fun d => !ch.has d) && noneIn l B
theorem noneIn_get {l : List Nat} : ∀ {B : BL}, noneIn l B = true → ∀ {c ch}, lookB B c = some ch → c ∉ l ∧ ∀ d, d ∈ l → ch.has d = false
 | (c, ch) :: B, h, d, ch', hd => by
   simp only [noneIn, Bool.and_eq_true, Bool.not_eq_true'] at h
   rw [lookB_cons] at hd
   split at hd
   · rename_i e
     subst e
     injection hd with hd
     subst hd
     refine ⟨fun hh => ?_, fun x hx => ?_⟩
     · have := List.contains_iff_mem.2 hh
       rw [h.1.1] at this
       cases this
     · have := List.all_eq_true.1 h.1.2 x hx
       simpa using this
   · exact noneIn_get h.2 hd
def hidOf (inn nw nw' : List Nat) : List Nat := inn ++ nw.filter fun d => !nw'.contains d
theorem mem_of_contains {l : List Nat} {d : Nat} (h : l.contains d = true) : d ∈ l := List.contains_iff_mem.1 h
theorem not_mem_of {l : List Nat} {d : Nat} (h : l.contains d = false) : d ∉ l := fun hh => by rw [List.contains_iff_mem.2 hh] at h; cases h
def closeIn (c : Nat) (inn : List Nat) (args : List SV) (Bl Bi : BL) (nw nw' : List Nat) : Bool :=
 (keysB Bl).contains c && (keysB Bl).all (fun d => (c :: inn).contains d) && amongB (c :: inn) Bl && !nw.contains c && !inn.contains c && nw'.all (fun d => nw.contains d && !inn.contains d) && (args.all fun v => inn.all fun d => !v.has d) && noneIn inn Bi && (lookB Bi c).isNone
def closeOut (c : Nat) (hid : List Nat) (res : SV) (Bl' Bo : BL) : Bool :=
 (keysB Bl').contains c && (keysB Bl').all (fun d => (c :: hid).contains d) && noneIn hid Bo && (lookB Bo c).isNone && (hid.all fun d => !res.has d)
/-- A contract on blocks laid open, as one on the object that they are. -/
theorem FnX.close {P : Program} {f : FuncId} {c : Nat} {args : List SV} {Bl Bi : BL} {nw nw' : List Nat} {X : Type} {res : X → SV} {Bl' Bo : X → BL} {o : Ob} {o' : X → Ob} (inn : List Nat)
   (h : FnX P f args (Bl ++ Bi) nw res (fun g => Bl' g ++ Bo g)) (hin : ∀ I F w p, o.R I F w p → grpR c Bl I F w p) (hout : ∀ g I F w p, grpR c (Bl' g) I F w p → (o' g).R I F w p)
   (h1 : closeIn c inn args Bl Bi nw nw' = true) (h2 : ∀ g, closeOut c (hidOf inn nw nw') (res g) (Bl' g) (Bo g) = true) :
   FnX P f args ((c, .obj o) :: Bi) nw' res (fun g => (c, .obj (o' g)) :: Bo g) := by
 obtain ⟨hcall, h⟩ := h
 simp only [closeIn, Bool.and_eq_true, Bool.not_eq_true', Option.isNone_iff_eq_none] at h1
 obtain ⟨⟨⟨⟨⟨⟨⟨⟨a1, a2⟩, a3⟩, a4⟩, a5⟩, a6⟩, a7⟩, a8⟩, a9⟩ := h1
 have a1 := mem_of_contains a1
 have a4 := not_mem_of a4
 have a5 := not_mem_of a5
 have a2' : ∀ d, d ∈ keysB Bl → d = c ∨ d ∈ inn := fun d hd => by
   have := mem_of_contains (List.all_eq_true.1 a2 d hd)
   exact List.mem_cons.1 this
 have a6' : ∀ d, d ∈ nw' → d ∈ nw ∧ d ∉ inn := fun d hd => by
   have := List.all_eq_true.1 a6 d hd
   simp only [Bool.and_eq_true, Bool.not_eq_true'] at this
   exact ⟨mem_of_contains this.1, not_mem_of this.2⟩
 refine ⟨hcall, fun ρ F I w vals hI hH hF hdj hlen hden => ?_⟩
 have hcl : lookB ((c, Ch.obj o) :: Bi) c = some (.obj o) := by rw [lookB_cons, if_pos rfl]
 obtain ⟨ρi, G, q1, q2, q3, q4⟩ := hin _ _ _ _ (hH c _ hcl)
 have hBi : ∀ {d ch}, lookB Bi d = some ch → d ≠ c ∧ d ∉ inn ∧ lookB ((c, Ch.obj o) :: Bi) d = some ch := fun {d ch} hd => by
   have e1 : d ≠ c := fun e => by rw [e, a9] at hd; cases hd
   exact ⟨e1, (noneIn_get a8 hd).1, by rw [lookB_cons, if_neg (Ne.symm e1)]; exact hd⟩
 have hcase : ∀ {d ch}, lookB (Bl ++ Bi) d = some ch → (lookB Bl d = some ch ∧ d ∈ keysB Bl) ∨ (d ∉ keysB Bl ∧ lookB Bi d = some ch) := fun {d ch} hd => by
   rw [lookB_app] at hd
   cases e : lookB Bl d with
   | some ch' =>
     rw [e] at hd
     exact .inl ⟨hd, keysB_mem.2 ⟨ch', e⟩⟩
   | none =>
     rw [e] at hd
     exact .inr ⟨fun hk => (by obtain ⟨ch', hk⟩ := keysB_mem.1 hk; rw [e] at hk; cases hk), hd⟩
 let ρs : Nat → Pl := fun d => if d ∈ inn then ρi d else ρ d
 let Fs : Nat → Nat → Prop := fun d => if d ∈ keysB Bl then G d else F d
 have hρs : ∀ d, d ∉ inn → ρs d = ρ d := fun d hd => if_neg hd
 have hρi : ∀ d, d ∈ c :: inn → ρs d = ρi d := fun d hd => by
   rcases List.mem_cons.1 hd with rfl | hd
   · rw [hρs _ a5, q1]
   · exact if_pos hd
 have hFr : ∀ y, (∃ d ch, lookB (Bl ++ Bi) d = some ch ∧ Fs d y) → ∃ d ch, lookB ((c, Ch.obj o) :: Bi) d = some ch ∧ F d y := by
   rintro y ⟨d, ch, hd, hy⟩
   rcases hcase hd with ⟨e1, e2⟩ | ⟨e1, e2⟩
   · have hy : G d y := by simpa only [Fs, if_pos e2] using hy
     exact ⟨c, _, hcl, (q4 y).2 ⟨d, ch, e1, hy⟩⟩
   · have hy : F d y := by simpa only [Fs, if_neg e1] using hy
     exact ⟨d, ch, (hBi e2).2.2, hy⟩
 refine (h ρs Fs I w vals hI ?_ ?_ ?_ hlen ?_).mono ?_
 · intro d ch hd
   rcases hcase hd with ⟨e1, e2⟩ | ⟨e1, e2⟩
   · have hk : d ∈ c :: inn := List.mem_cons.2 (a2' d e2)
     rw [hρi d hk]
     simp only [Fs, if_pos e2]
     exact Holds.stable (Ext.refl _ _) (fun _ _ => rfl) (Nat.le_refl _) ch (fun j hj => hρi j (Ch.among_has (amongB_get a3 e1) hj)) (q2 d ch e1)
   · rw [hρs d (hBi e2).2.1]
     simp only [Fs, if_neg e1]
     exact Holds.stable (Ext.refl _ _) (fun _ _ => rfl) (Nat.le_refl _) ch (fun j hj => hρs j (fun hji => by rw [(noneIn_get a8 e2).2 j hji] at hj; cases hj)) (hH d ch (hBi e2).2.2)
 · intro d ch hd x hx
   rcases hcase hd with ⟨e1, e2⟩ | ⟨e1, e2⟩
   · simp only [Fs, if_pos e2] at hx
     exact hF c _ hcl x ((q4 x).2 ⟨d, ch, e1, hx⟩)
   · simp only [Fs, if_neg e1] at hx
     exact hF d ch (hBi e2).2.2 x hx
 · intro d d' ch ch' x hd hd' hne hx hx'
   rcases hcase hd with ⟨e1, e2⟩ | ⟨e1, e2⟩
   · simp only [Fs, if_pos e2] at hx
     rcases hcase hd' with ⟨e1', e2'⟩ | ⟨e1', e2'⟩
     · simp only [Fs, if_pos e2'] at hx'
       exact q3 d d' ch ch' x e1 e1' hne hx hx'
     · simp only [Fs, if_neg e1'] at hx'
       exact hdj c d' _ ch' x hcl (hBi e2').2.2 (Ne.symm (hBi e2').1) ((q4 x).2 ⟨d, ch, e1, hx⟩) hx'
   · simp only [Fs, if_neg e1] at hx
     rcases hcase hd' with ⟨e1', e2'⟩ | ⟨e1', e2'⟩
     · simp only [Fs, if_pos e2'] at hx'
       exact hdj c d _ ch x hcl (hBi e2).2.2 (Ne.symm (hBi e2).1) ((q4 x).2 ⟨d', ch', e1', hx'⟩) hx
     · simp only [Fs, if_neg e1'] at hx'
       exact hdj d d' ch ch' x (hBi e2).2.2 (hBi e2').2.2 hne hx hx'
 · intro i v x hv hx
   have hva := List.all_eq_true.1 a7 v (List.mem_of_getElem? hv)
   exact DenV.mono (Ext.refl _ _) v x (fun j hj => hρs j (fun hji => by
     have := List.all_eq_true.1 hva j hji
     rw [hj] at this
     cases this)) (hden i v x hv hx)
 · rintro e w' ⟨g, x, ρ', F', rfl, hfr, hρ, I', he1, he2, hH', hO, hDj, hden'⟩
   have hg := h2 g
   simp only [closeOut, Bool.and_eq_true, Option.isNone_iff_eq_none] at hg
   obtain ⟨⟨⟨⟨b1, b2⟩, b3⟩, b4⟩, b5⟩ := hg
   have b1 := mem_of_contains b1
   have hhid : ∀ d, d ∉ hidOf inn nw nw' → d ∉ inn ∧ (d ∈ nw → d ∈ nw') := fun d hd => by
     refine ⟨fun hh => hd (List.mem_append.2 (.inl hh)), fun hh => ?_⟩
     rcases Decidable.em (d ∈ nw') with h | h
     · exact h
     · exact absurd (List.mem_append.2 (.inr (List.mem_filter.2 ⟨hh, by simpa using h⟩))) hd
   have hch : c ∉ hidOf inn nw nw' := fun hh => by
     rcases List.mem_append.1 hh with h | h
     · exact a5 h
     · exact a4 (List.mem_filter.1 h).1
   let ρ2 : Nat → Pl := fun d => if d ∈ nw' then ρ' d else ρ d
   have hρ2 : ∀ d, d ∉ hidOf inn nw nw' → ρ2 d = ρ' d := fun d hd => by
     obtain ⟨e1, e2⟩ := hhid d hd
     show (if d ∈ nw' then ρ' d else ρ d) = ρ' d
     split
     · rfl
     · rename_i hn
       rw [hρ d (fun hh => hn (e2 hh)), hρs d e1]
   have hBl : ∀ {d ch}, lookB (Bl' g) d = some ch → lookB (Bl' g ++ Bo g) d = some ch := fun {d ch} hd => by rw [lookB_app, hd]
   have hBo : ∀ {d ch}, lookB (Bo g) d = some ch → d ≠ c ∧ d ∉ hidOf inn nw nw' ∧ lookB (Bl' g) d = none ∧ lookB (Bl' g ++ Bo g) d = some ch := fun {d ch} hd => by
     have e1 : d ≠ c := fun e => by rw [e, b4] at hd; cases hd
     have e2 := (noneIn_get b3 hd).1
     have e3 : lookB (Bl' g) d = none := by
       cases e : lookB (Bl' g) d with
       | none => rfl
       | some ch' =>
         have := mem_of_contains (List.all_eq_true.1 b2 d (keysB_mem.2 ⟨ch', e⟩))
         rcases List.mem_cons.1 this with h | h
         · exact absurd h e1
         · exact absurd h e2
     exact ⟨e1, e2, e3, by rw [lookB_app, e3]; exact hd⟩
   refine ⟨g, x, ρ2, fun d => if d = c then (fun y => ∃ d' ch', lookB (Bl' g) d' = some ch' ∧ F' d' y) else F' d, rfl, hfr.mono fun y _ hy => hFr y hy, fun d hd => if_neg hd, I', he1, fun y hy => ⟨(he2 y hy).1, ?_⟩, ?_, ?_, ?_, ?_⟩
   · rcases (he2 y hy).2 with h | h | h
     · exact .inl h
     · exact .inr (.inl (hFr y h))
     · exact .inr (.inr h)
   · intro d ch hd
     rw [lookB_cons] at hd
     split at hd
     · rename_i e
       injection hd with hd
       subst hd e
       simp only [if_true]
       rw [hρ2 _ hch]
       exact hout g _ _ _ _ ⟨ρ', F', rfl, fun d ch hd => hH' d ch (hBl hd), fun d d' ch ch' b hd hd' hne => hDj d d' ch ch' b (hBl hd) (hBl hd') hne, fun b => Iff.rfl⟩
     · obtain ⟨e1, e2, e3, e4⟩ := hBo hd
       simp only [if_neg e1]
       rw [hρ2 d e2]
       exact Holds.stable (Ext.refl _ _) (fun _ _ => rfl) (Nat.le_refl _) ch (fun j hj => hρ2 j (fun hji => by rw [(noneIn_get b3 hd).2 j hji] at hj; cases hj)) (hH' d ch e4)
   · intro d ch hd y hy
     rw [lookB_cons] at hd
     split at hd
     · rename_i e
       subst e
       simp only [if_true] at hy
       obtain ⟨d', ch', h1, h2⟩ := hy
       obtain ⟨c1, c2, c3⟩ := hO d' ch' (hBl h1) y h2
       exact ⟨c1, c2, c3.imp (hFr y) id⟩
     · obtain ⟨e1, e2, e3, e4⟩ := hBo hd
       simp only [if_neg e1] at hy
       obtain ⟨c1, c2, c3⟩ := hO d ch e4 y hy
       exact ⟨c1, c2, c3.imp (hFr y) id⟩
   · intro d d' ch ch' y hd hd' hne hy hy'
     rw [lookB_cons] at hd hd'
     split at hd
     · rename_i e
       subst e
       rw [if_neg hne] at hd'
       obtain ⟨e1, e2, e3, e4⟩ := hBo hd'
       simp only [if_true] at hy
       simp only [if_neg e1] at hy'
       obtain ⟨d1, ch1, h1, h2⟩ := hy
       exact hDj d1 d' ch1 ch' y (hBl h1) e4 (fun e => by rw [e, e3] at h1; cases h1) h2 hy'
     · obtain ⟨e1, e2, e3, e4⟩ := hBo hd
       simp only [if_neg e1] at hy
       split at hd'
       · rename_i e
         subst e
         simp only [if_true] at hy'
         obtain ⟨d1, ch1, h1, h2⟩ := hy'
         exact hDj d d1 ch ch1 y e4 (hBl h1) (fun e => by rw [← e, e3] at h1; cases h1) hy h2
       · obtain ⟨e1', e2', e3', e4'⟩ := hBo hd'
         simp only [if_neg e1'] at hy'
         exact hDj d d' ch ch' y e4 e4' hne hy hy'
   · exact DenV.mono (Ext.refl _ _) (res g) x (fun j hj => hρ2 j (fun hji => by
       have := List.all_eq_true.1 b5 j hji
       rw [hj] at this
       cases this)) hden'
/-- Other numbers within. -/
theorem grpR.ofRn {f g : Nat → Nat} (hgf : ∀ c, g (f c) = c) (hfg : ∀ c, f (g c) = c) {c : Nat} {Bl : BL} {I F : Nat → Prop} {w : World} {p : Pl} (h : grpR c Bl I F w p) : grpR (f c) (rnB f Bl) I F w p := by
 obtain ⟨ρ, G, h1, h2, h3, h4⟩ := h
 have hl : ∀ {d ch}, lookB (rnB f Bl) d = some ch → ∃ ch0, lookB Bl (g d) = some ch0 ∧ ch = ch0.rn f := fun {d ch} hd => by
   rw [← hfg d, lookB_rnB hgf] at hd
   obtain ⟨ch0, e1, e2⟩ := Option.map_eq_some_iff.1 hd
   exact ⟨ch0, e1, e2.symm⟩
 refine ⟨fun d => ρ (g d), fun d => G (g d), by simp only [hgf]; exact h1, fun d ch hd => ?_, fun d d' ch ch' b hd hd' hne => ?_, fun b => ?_⟩
 · obtain ⟨ch0, e1, rfl⟩ := hl hd
   rw [Holds_rn]
   simp only [hgf]
   exact h2 _ _ e1
 · obtain ⟨ch0, e1, _⟩ := hl hd
   obtain ⟨ch1, e2, _⟩ := hl hd'
   exact h3 _ _ _ _ b e1 e2 (fun e => hne (by rw [← hfg d, ← hfg d', e]))
 · rw [h4]
   constructor
   · rintro ⟨d, ch, e1, e2⟩
     exact ⟨f d, ch.rn f, by rw [lookB_rnB hgf, e1]; rfl, by simp only [hgf]; exact e2⟩
   · rintro ⟨d, ch, e1, e2⟩
     obtain ⟨ch0, e3, _⟩ := hl e1
     exact ⟨g d, ch0, e3, e2⟩
/-- .. by pairs. -/
theorem grpR.ren (l : List (Nat × Nat)) {c : Nat} {Bl : BL} {I F : Nat → Prop} {w : World} {p : Pl} (h : grpR c Bl I F w p) : grpR (rn (mkRn l []) c) (rnB (rn (mkRn l [])) Bl) I F w p :=
 h.ofRn (g := rnI (mkRn l [])) (rnI_rn _) (rn_rnI _)
/-- The blocks of another order, or that more is said of. -/
theorem grpR.sub {c : Nat} {Bl Bl' : BL} {I F : Nat → Prop} {w : World} {p : Pl} (h : grpR c Bl I F w p) (h1 : ∀ d ch, lookB Bl d = some ch ↔ lookB Bl' d = some ch) : grpR c Bl' I F w p := by
 obtain ⟨ρ, G, e1, e2, e3, e4⟩ := h
 exact ⟨ρ, G, e1, fun d ch hd => e2 d ch ((h1 d ch).2 hd), fun d d' ch ch' b hd hd' => e3 d d' ch ch' b ((h1 d ch).2 hd) ((h1 d' ch').2 hd'), fun b => (e4 b).trans ⟨fun ⟨d, ch, a, b⟩ => ⟨d, ch, (h1 d ch).1 a, b⟩, fun ⟨d, ch, a, b⟩ => ⟨d, ch, (h1 d ch).2 a, b⟩⟩⟩
section
variable {ids : List Nat} {K : KL} {B : BL}
/-- A block's address, named. -/
theorem LeX.name (s c : Nat) {o : Ob} (hs : look K s = .c (.one (.ptr c 0))) (hc : lookB B c = some (.obj o)) : LeX ids K B (fun b : Nat => (s, .c (.one (.d (.adr (some b))))) :: K) (fun b => (c, .obj (o.at b)) :: B) := by
 rintro N C a w ⟨hn, hd, ρ, F, hM, hS⟩
 obtain ⟨hM', hE⟩ := hM.turn (w' := w) (ch := .obj (o.at (ρ c).blk)) hc (Fr.refl _ _) fun I hI => ⟨rfl, Holds.stable (ρ' := ρ) hI (fun _ _ => rfl) (Nat.le_refl _) (.obj o) (fun _ _ => rfl) (hM.holds c _ hc)⟩
 refine ⟨(ρ c).blk, hn, hd, ρ, F, hM', fun t => ?_⟩
 rw [look_cons]
 split
 · rename_i e
   subst e
   have := hS s
   rw [hs] at this
   exact this
 · exact hS.mono hE (fun _ _ _ => rfl) t
/-- An object, put into a pool. -/
theorem Le.put (q c : Nat) {o : Ob} {b : Nat} {L : List (Nat × Ob)} (hne : c ≠ q) (hq : lookB B q = some (.obj (.pool L))) (hc : lookB B c = some (.obj (o.at b))) : Le ids K B K ((q, .obj (.pool ((b, o) :: L))) :: dropB B c) := by
 rintro N C a w ⟨hn, hd, ρ, F, hM, hS⟩
 have hP : poolR _ _ L (F q) := hM.holds q _ hq
 have hO : (ρ c).blk = b ∧ o.R _ (F c) w (ρ c) := hM.holds c _ hc
 obtain ⟨rfl, hO⟩ := hO
 have hdj : ∀ x, F c x → ¬ F q x := fun x hx hx' => hM.disj c q _ _ x hc hq hne hx hx'
 obtain ⟨hM', hE⟩ := hM.step (B' := (q, .obj (.pool (((ρ c).blk, o) :: L))) :: dropB B c) (ρ' := ρ) (F' := upd F q (fun x => F c x ∨ F q x)) (w' := w) (fun d => d = c ∨ d = q) (fun _ => False) (Fr.refl _ _)
   (fun d ch hd hm => by
     rw [lookB_cons, if_neg (fun e => hm (.inr e.symm)), lookB_dropB, if_neg (fun e => hm (.inl e.symm))] at hd
     exact hd)
   (fun _ _ => rfl) (fun d hm => upd_other _ _ (fun e => hm (.inr e))) (fun _ _ h => h) (fun _ h => h.elim) (fun _ _ _ _ _ _ h => h)
   (fun d ch hd hm hE => by
     rw [lookB_cons] at hd
     split at hd
     · rename_i e
       subst e
       injection hd with hd
       subst hd
       rw [upd_same]
       exact poolR.add (hP.stable hE (Nat.le_refl _) (fun _ _ => rfl)) (o.stable _ _ _ _ _ _ hO hE (fun _ _ => rfl) (Nat.le_refl _)) hdj
     · rename_i e
       rcases hm with rfl | rfl
       · rw [lookB_dropB, if_pos rfl] at hd; cases hd
       · exact absurd rfl e)
   (fun d ch hd hm x hx => by
     rw [lookB_cons] at hd
     split at hd
     · rename_i e
       subst e
       rw [upd_same] at hx
       rcases hx with hx | hx
       · exact ⟨(hM.own c _ hc x hx).1, .inl ⟨c, _, hc, .inl rfl, hx⟩⟩
       · exact ⟨(hM.own q _ hq x hx).1, .inl ⟨q, _, hq, .inr rfl, hx⟩⟩
     · rename_i e
       rcases hm with rfl | rfl
       · rw [lookB_dropB, if_pos rfl] at hd; cases hd
       · exact absurd rfl e)
   (fun d d' ch ch' x hd hd' hm hm' hne' => by
     have key : ∀ d ch, lookB ((q, Ch.obj (.pool (((ρ c).blk, o) :: L))) :: dropB B c) d = some ch → (d = c ∨ d = q) → d = q := fun d ch hd hm => by
       rcases hm with rfl | rfl
       · rw [lookB_cons, if_neg (Ne.symm hne), lookB_dropB, if_pos rfl] at hd; cases hd
       · rfl
     exact absurd ((key d ch hd hm).trans (key d' ch' hd' hm').symm) hne')
 exact ⟨hn, hd, ρ, _, hM', hS.mono hE fun _ _ _ => rfl⟩
def dropBs : List Nat → BL → BL
 | [], B => B
 | c :: l, B => dropBs l (dropB B c)
theorem lookB_dropBs : ∀ (l : List Nat) (B : BL) (d : Nat), lookB (dropBs l B) d = if d ∈ l then none else lookB B d
 | [], B, d => by simp [dropBs]
 | c :: l, B, d => by
   rw [dropBs, lookB_dropBs l, lookB_dropB]
   by_cases h : d ∈ l
   · rw [if_pos h, if_pos (List.mem_cons_of_mem _ h)]
   · rw [if_neg h]
     by_cases e : c = d
     · subst e; rw [if_pos rfl, if_pos (List.mem_cons_self ..)]
     · rw [if_neg e, if_neg]
       intro hh
       rcases List.mem_cons.1 hh with rfl | hh
       · exact e rfl
       · exact h hh
/-- Blocks, taken as the object that they are. -/
theorem Le.close (c : Nat) (Bl : BL) {o : Ob} (hB : subB B Bl) (hc : (keysB Bl).contains c = true) (ho : ∀ I F w p, grpR c Bl I F w p → o.R I F w p) : Le ids K B K ((c, .obj o) :: dropBs (keysB Bl) B) := by
 rintro N C a w ⟨hn, hd, ρ, F, hM, hS⟩
 have hc := mem_of_contains hc
 have hl : ∀ {d ch}, lookB Bl d = some ch → lookB B d = some ch := fun {d ch} h => subB_get hB h
 have hdead : ∀ {d ch}, lookB ((c, Ch.obj o) :: dropBs (keysB Bl) B) d = some ch → d ∈ keysB Bl → d = c ∧ ch = .obj o := fun {d ch} hd hm => by
   rw [lookB_cons] at hd
   split at hd
   · rename_i e; injection hd with hd; exact ⟨e.symm, hd.symm⟩
   · rw [lookB_dropBs, if_pos hm] at hd; cases hd
 obtain ⟨hM', hE⟩ := hM.step (B' := (c, .obj o) :: dropBs (keysB Bl) B) (ρ' := ρ) (F' := fun d => if d ∈ keysB Bl then (fun x => ∃ d ch, lookB Bl d = some ch ∧ F d x) else F d) (w' := w) (fun d => d ∈ keysB Bl) (fun _ => False) (Fr.refl _ _)
   (fun d ch hd hm => by
     have hne : c ≠ d := fun e => hm (by rw [← e]; exact hc)
     rw [lookB_cons, if_neg hne, lookB_dropBs, if_neg hm] at hd
     exact hd)
   (fun _ _ => rfl) (fun d hm => if_neg hm) (fun _ _ h => h) (fun _ h => h.elim) (fun _ _ _ _ _ _ h => h)
   (fun d ch hd hm hE => by
     obtain ⟨rfl, rfl⟩ := hdead hd hm
     simp only [if_pos hm]
     exact ho _ _ _ _ ⟨ρ, F, rfl, fun d ch h => Holds.stable hE (fun _ _ => rfl) (Nat.le_refl _) ch (fun _ _ => rfl) (hM.holds d ch (hl h)), fun d d' ch ch' b h h' hne => hM.disj d d' ch ch' b (hl h) (hl h') hne, fun b => Iff.rfl⟩)
   (fun d ch hd hm x hx => by
     simp only [if_pos hm] at hx
     obtain ⟨d', ch', h1, h2⟩ := hx
     exact ⟨(hM.own d' ch' (hl h1) x h2).1, .inl ⟨d', ch', hl h1, keysB_mem.2 ⟨ch', h1⟩, h2⟩⟩)
   (fun d d' ch ch' x hd hd' hm hm' hne => absurd ((hdead hd hm).1.trans (hdead hd' hm').1.symm) hne)
 exact ⟨hn, hd, ρ, _, hM', hS.mono hE fun _ _ _ => rfl⟩
/-- A pool of none. -/
theorem Le.emp (q : Nat) (hf : freshB ids K B q = true) : Le ids K B K ((q, .obj (.pool [])) :: B) := by
 rintro N C a w ⟨hn, hd, ρ, F, hM, hS⟩
 have hfr := fresh_of hf
 obtain ⟨hM', hE⟩ := hM.make hf (Below.refl _ w) (ρ q) (fun _ => False) (fun _ h => h.elim) (ch := .obj (.pool [])) fun I _ _ => fun b h => h
 exact ⟨hn, hd, _, _, hM', hS.mono hE fun s d hd => upd_other _ _ (fun e => by subst e; rw [hfr.1 s] at hd; cases hd)⟩
end
end Go.Proofs.YteoamepgonpdlaaGreat
/-!
  Words that several chapters share.
-/
namespace Go.Proofs.YteoamepgonpdlaaGreat
set_option linter.unusedVariables false
set_option linter.unusedSimpArgs false
open Go.RowKit
@[reducible] def uI : U := .int .i64
@[reducible] def vNilP : SC := .one (.raw (.pointer none))
@[reducible] def vErr (n : Int) : SC := .one (.d (.int .i64 n))
@[reducible] def vU : SV := .tup []
@[reducible] def vAd (b : Nat) : SV := .c (.one (.d (.adr (some b))))
theorem lgAt {α : Type} {L : List α} {n : Nat} (h : n < L.length) : lget L n = some L[n] := List.getElem?_eq_getElem h
theorem lgetAt {α : Type} {L : List α} {n : Nat} (h : n < L.length) : lget L n = some L[n] := List.getElem?_eq_getElem h
/-- A contract on blocks laid open, as one on the object that they are (nothing is made known). -/
theorem Fn.close {P : Program} {f : FuncId} {c : Nat} {args : List SV} {Bl Bi : BL} {nw nw' : List Nat} {res : SV} {Bl' Bo : BL} {o o' : Ob} (inn : List Nat)
   (h : Fn P f args (Bl ++ Bi) nw res (Bl' ++ Bo)) (hin : ∀ I F w p, o.R I F w p → grpR c Bl I F w p) (hout : ∀ I F w p, grpR c Bl' I F w p → o'.R I F w p)
   (h1 : closeIn c inn args Bl Bi nw nw' = true) (h2 : closeOut c (hidOf inn nw nw') res Bl' Bo = true) :
   Fn P f args ((c, .obj o) :: Bi) nw' res ((c, .obj o') :: Bo) :=
 (FnX.close (Bl := Bl) (Bl' := fun _ : Unit => Bl') (Bo := fun _ => Bo) (o := o) (o' := fun _ => o') inn h.x hin (fun _ => hout) h1 (fun _ => h2)).fn
/-- An object that is one of several, whichever. -/
theorem Fn.openEx {P : Program} {f : FuncId} {args : List SV} {c : Nat} {Bi : BL} {nw : List Nat} {res : SV} {Bo : BL} {o : Ob} {Y : Type} {oy : Y → Ob} (hc : callable P f = true) (ho : ∀ I F w p, o.R I F w p → ∃ y, (oy y).R I F w p)
   (h : ∀ y, Fn P f args ((c, .obj (oy y)) :: Bi) nw res Bo) : Fn P f args ((c, .obj o) :: Bi) nw res Bo := by
 refine ⟨hc, fun ρ F I w vals a1 a2 a3 a4 a5 a6 => ?_⟩
 have hl : lookB ((c, Ch.obj o) :: Bi) c = some (.obj o) := by rw [lookB_cons, if_pos rfl]
 obtain ⟨y, hy⟩ := ho _ _ _ _ (a2 c _ hl)
 have key : ∀ d ch, lookB ((c, Ch.obj (oy y)) :: Bi) d = some ch → (d = c ∧ ch = .obj (oy y)) ∨ lookB ((c, Ch.obj o) :: Bi) d = some ch := fun d ch hd => by
   rw [lookB_cons] at hd
   split at hd
   · rename_i e; injection hd with hd; exact .inl ⟨e.symm, hd.symm⟩
   · rename_i e; exact .inr (by rw [lookB_cons, if_neg e]; exact hd)
 have key2 : ∀ d ch, lookB ((c, Ch.obj (oy y)) :: Bi) d = some ch → ∃ ch0, lookB ((c, Ch.obj o) :: Bi) d = some ch0 := fun d ch hd => by
   rcases key d ch hd with ⟨e, _⟩ | h
   · rw [e]
     exact ⟨_, hl⟩
   · exact ⟨_, h⟩
 have key3 : ∀ d ch, lookB ((c, Ch.obj o) :: Bi) d = some ch → ∃ ch0, lookB ((c, Ch.obj (oy y)) :: Bi) d = some ch0 := fun d ch hd => by
   rw [lookB_cons] at hd ⊢
   split at hd
   · rename_i e; exact ⟨_, by rw [if_pos e]⟩
   · rename_i e; exact ⟨ch, by rw [if_neg e]; exact hd⟩
 have hF : ∀ b, (∃ d ch, lookB ((c, Ch.obj (oy y)) :: Bi) d = some ch ∧ F d b) ↔ ∃ d ch, lookB ((c, Ch.obj o) :: Bi) d = some ch ∧ F d b := fun b =>
   ⟨fun ⟨d, ch, h1, h2⟩ => let ⟨ch0, h⟩ := key2 d ch h1; ⟨d, ch0, h, h2⟩, fun ⟨d, ch, h1, h2⟩ => let ⟨ch0, h⟩ := key3 d ch h1; ⟨d, ch0, h, h2⟩⟩
 refine ((h y).2 ρ F I w vals a1 (fun d ch hd => ?_) (fun d ch hd b hb => ?_) (fun d d' ch ch' b h1 h2 => ?_) a5 a6).mono ?_
 · rcases key d ch hd with ⟨rfl, rfl⟩ | h
   · exact hy
   · exact a2 d ch h
 · obtain ⟨ch0, h⟩ := key2 d ch hd
   exact a3 d ch0 h b hb
 · obtain ⟨c0, g1⟩ := key2 d ch h1
   obtain ⟨c1, g2⟩ := key2 d' ch' h2
   exact a4 d d' c0 c1 b g1 g2
 · rintro e w' ⟨x, ρ', F', r1, r2, r3, I', r4, r5, r6, r7, r8, r9⟩
   refine ⟨x, ρ', F', r1, r2.mono fun b _ hb => (hF b).1 hb, r3, I', r4, fun b hb => ⟨(r5 b hb).1, (r5 b hb).2.imp id (Or.imp (hF b).1 id)⟩, r6, fun d ch hd b hb => ?_, r8, r9⟩
   obtain ⟨g1, g2, g3⟩ := r7 d ch hd b hb
   exact ⟨g1, g2, g3.imp (hF b).1 id⟩
end Go.Proofs.YteoamepgonpdlaaGreat
/-!
  Contracts that make something known: other numbers. What a pool tells of its addresses.
-/
namespace Go.Proofs.YteoamepgonpdlaaGreat
set_option linter.unusedVariables false
set_option linter.unusedSimpArgs false
open Go.RowKit
theorem FnX.rn' {P : Program} {fn : FuncId} {f g : Nat → Nat} (hg : ∀ c, g (f c) = c) (hf : ∀ c, f (g c) = c) {args : List SV} {Bi : BL} {nw : List Nat} {X : Type} {res : X → SV} {Bo : X → BL} (h : FnX P fn args Bi nw res Bo) :
   FnX P fn (rnVL f args) (rnB f Bi) (rnN f nw) (fun x => (res x).rn f) (fun x => rnB f (Bo x)) := by
 refine ⟨h.1, ?_⟩
 intro ρ F I w vals hI hH hF hdj hlen hden
 have lk : ∀ (B : BL) c, lookB (rnB f B) (f c) = (lookB B c).map (·.rn f) := lookB_rnB hg
 have fwd : ∀ {B : BL} {c ch}, lookB B c = some ch → lookB (rnB f B) (f c) = some (ch.rn f) := fun {B c ch} h => by rw [lk, h]; rfl
 have bwd : ∀ {B : BL} {c ch}, lookB (rnB f B) c = some ch → ∃ ch0, lookB B (g c) = some ch0 ∧ ch = ch0.rn f := fun {B c ch} h => by
   have e := lk B (g c)
   rw [hf, h] at e
   obtain ⟨ch0, h1, h2⟩ := Option.map_eq_some_iff.1 e.symm
   exact ⟨ch0, h1, h2.symm⟩
 rw [rnVL_map] at hlen hden
 have hc := h.2 (fun c => ρ (f c)) (fun c => F (f c)) I w vals hI
   (fun c ch hc => by rw [← Holds_rn]; exact hH _ _ (fwd hc))
   (fun c ch hc => hF _ _ (fwd hc))
   (fun c c' ch ch' b h1 h2 hne => hdj _ _ _ _ b (fwd h1) (fwd h2) fun e => hne (by rw [← hg c, e, hg]))
   (by simpa using hlen)
   (fun i v x hv hx => by rw [← DenV_rn]; exact hden i _ x (by rw [List.getElem?_map, hv]; rfl) hx)
 refine hc.mono ?_
 rintro e w' ⟨y, x, ρ', F', rfl, hfr, hρ, I', he1, he2, hH', hO, hDj, hx⟩
 have hback : (fun c => ρ' (g (f c))) = ρ' := funext fun c => by rw [hg]
 refine ⟨y, x, fun c => ρ' (g c), fun c => F' (g c), rfl, ?_, ?_, I', he1, ?_, ?_, ?_, ?_, ?_⟩
 · exact hfr.mono fun b _ ⟨c, ch, h1, h2⟩ => ⟨f c, _, fwd h1, h2⟩
 · intro c hc
   show ρ' (g c) = ρ c
   rw [hρ (g c) (fun hm => hc (by have := rnN_mem (f := f) _ _ hm; rwa [hf] at this)), hf]
 · intro b hb
   obtain ⟨h1, h2⟩ := he2 b hb
   refine ⟨h1, ?_⟩
   rcases h2 with h2 | ⟨c, ch, h2, h3⟩ | h2
   · exact .inl h2
   · exact .inr (.inl ⟨f c, _, fwd h2, h3⟩)
   · exact .inr (.inr h2)
 · intro c ch hc
   obtain ⟨ch0, h1, rfl⟩ := bwd hc
   rw [Holds_rn, hback]
   exact hH' _ _ h1
 · intro c ch hc b hb
   obtain ⟨ch0, h1, rfl⟩ := bwd hc
   obtain ⟨q1, q2, q3⟩ := hO _ _ h1 b hb
   refine ⟨q1, q2, ?_⟩
   rcases q3 with ⟨c0, ch0, q3, q4⟩ | q3
   · exact .inl ⟨f c0, _, fwd q3, q4⟩
   · exact .inr q3
 · intro c c' ch ch' b hc hc' hne
   obtain ⟨ch0, h1, rfl⟩ := bwd hc
   obtain ⟨ch1, h2, rfl⟩ := bwd hc'
   exact hDj _ _ _ _ b h1 h2 fun e => hne (by rw [← hf c, e, hf])
 · rw [DenV_rn, hback]
   exact hx
theorem FnX.ren {P : Program} {fn : FuncId} (l : List (Nat × Nat)) {args : List SV} {Bi : BL} {nw : List Nat} {X : Type} {res : X → SV} {Bo : X → BL} (h : FnX P fn args Bi nw res Bo) :
   FnX P fn (rnVL (rn (mkRn l [])) args) (rnB (rn (mkRn l [])) Bi) (rnN (rn (mkRn l [])) nw) (fun x => (res x).rn (rn (mkRn l []))) (fun x => rnB (rn (mkRn l [])) (Bo x)) :=
 FnX.rn' (rnI_rn _) (rn_rnI _) h
/-- An object that has the block it begins with. -/
def Ob.anch (o : Ob) : Prop := ∀ I F w p, o.R I F w p → F p.blk
theorem poolR_in {I : Nat → Prop} {w : World} {b : Nat} : ∀ {L : List (Nat × Ob)} {F : Nat → Prop}, (∀ p ∈ L, p.2.anch) → poolR I w L F → b ∈ L.map (·.1) → F b
 | [], _, _, _, h => by cases h
 | p :: L, F, ha, ⟨F1, F2, q, h1, h2, h3, h4, h5⟩, h => by
   rcases List.mem_cons.1 h with h | h
   · exact (h1 b).2 (.inl (by rw [h]; have := ha p (List.mem_cons_self ..) _ _ _ _ h4; rwa [h3] at this))
   · exact (h1 b).2 (.inr (poolR_in (fun p hp => ha p (List.mem_cons_of_mem _ hp)) h5 h))
theorem poolR_nodup {I : Nat → Prop} {w : World} : ∀ {L : List (Nat × Ob)} {F : Nat → Prop}, (∀ p ∈ L, p.2.anch) → poolR I w L F → (L.map (·.1)).Nodup
 | [], _, _, _ => List.nodup_nil
 | p :: L, F, ha, ⟨F1, F2, q, h1, h2, h3, h4, h5⟩ => by
   have ha' : ∀ p ∈ L, p.2.anch := fun p hp => ha p (List.mem_cons_of_mem _ hp)
   rw [List.map_cons]
   refine List.nodup_cons.2 ⟨fun hm => ?_, poolR_nodup ha' h5⟩
   have e1 := ha p (List.mem_cons_self ..) _ _ _ _ h4
   rw [h3] at e1
   exact h2 _ e1 (poolR_in ha' h5 hm)
/-- A pool's addresses differ. -/
theorem LeX.poolNd {ids : List Nat} {K : KL} {B : BL} (q : Nat) {L : List (Nat × Ob)} (ha : ∀ p ∈ L, p.2.anch) (hq : lookB B q = some (.obj (.pool L))) : LeX ids K B (X := PLift ((L.map (·.1)).Nodup)) (fun _ => K) (fun _ => B) := by
 rintro N C a w ⟨hn, hd, ρ, F, hM, hS⟩
 have hP : poolR (Imm C B F w) w L (F q) := hM.holds q _ hq
 exact ⟨⟨poolR_nodup ha hP⟩, hn, hd, ρ, F, hM, hS⟩
end Go.Proofs.YteoamepgonpdlaaGreat
/-!
  Ranges over a function: whoever ranges has its blocks in one object while the iterator runs; a round is its body's walk.
-/
namespace Go.Proofs.YteoamepgonpdlaaGreat
set_option linter.unusedVariables false
set_option linter.unusedSimpArgs false
open Go.RowKit
/-- The record of a loop over a function. -/
@[reducible] def recOf (fn : FuncId) (tmps : Array Value) (ps : Array Nat) (assign body : Code) (D : Nat) (st : LoopState) : Loop := { state := st, pending := none, fn := fn, tmps := tmps, params := ps, assign := assign, body := body, defers := D }
/-- The blocks of whoever ranges, and the loop's record l: those of kp lie where they lay; what was laid ahead is as it was. -/
def rngR (ρ0 : Nat → Pl) (kp : List Nat) (Ie : Nat → Prop) (we : World) (l : Nat) (rec : Loop) (c : Nat) (B : BL) (I F : Nat → Prop) (w : World) (p : Pl) : Prop :=
 Ext Ie we I w ∧ w.heap[l]? = some (.loop rec) ∧ ∃ (ρ : Nat → Pl) (G : Nat → Nat → Prop), ρ c = p ∧ (∀ d, d ∈ kp → ρ d = ρ0 d) ∧ (∀ d ch, lookB B d = some ch → Holds ρ I (G d) w (ρ d) ch) ∧
   (∀ d d' ch ch' b, lookB B d = some ch → lookB B d' = some ch' → d ≠ d' → G d b → ¬ G d' b) ∧ (∀ d ch, lookB B d = some ch → ¬ G d l) ∧ ∀ b, F b ↔ b = l ∨ ∃ d ch, lookB B d = some ch ∧ G d b
def Ob.rng (ρ0 : Nat → Pl) (kp : List Nat) (Ie : Nat → Prop) (we : World) (l : Nat) (rec : Loop) (c : Nat) (B : BL) : Ob where
 R := rngR ρ0 kp Ie we l rec c B
 stable := fun I F w I' w' p ⟨h0, hl, ρ, G, h1, h1', h2, h3, h3', h4⟩ he hF hz =>
   ⟨h0.trans he, (hF l ((h4 l).2 (.inl rfl))).trans hl, ρ, G, h1, h1', fun d ch hd => Holds.stable he (fun b hb => hF b ((h4 b).2 (.inr ⟨d, ch, hd, hb⟩))) hz ch (fun _ _ => rfl) (h2 d ch hd), h3, h3', h4⟩
def allAmong (l : List Nat) : List SV → Bool
 | [] => true
 | v :: vs => v.among l && allAmong l vs
theorem allAmong_get {l : List Nat} : ∀ {vs : List SV}, allAmong l vs = true → ∀ {i : Nat} {v : SV}, vs[i]? = some v → v.among l = true
 | [], _, i, v, h => by simp at h
 | x :: vs, h, i, v, hv => by
   simp only [allAmong, Bool.and_eq_true] at h
   match i with
   | 0 =>
     simp only [List.getElem?_cons_zero, Option.some.injEq] at hv
     exact hv ▸ h.1
   | i + 1 => exact allAmong_get h.2 (i := i) (by simpa using hv)
def amongK (l : List Nat) : KL → Bool
 | [] => true
 | (_, v) :: K => v.among l && amongK l K
theorem amongK_get {l : List Nat} : ∀ {K : KL}, amongK l K = true → ∀ s, (look K s).among l = true
 | [], _, s => rfl
 | (t, v) :: K, h, s => by
   simp only [amongK, Bool.and_eq_true] at h
   rw [look_cons]
   split
   · exact h.1
   · exact amongK_get h.2 s
section
variable {P : Program} {tt : Tr} {N : Nat} {ρ0 : Nat → Pl} {kp : List Nat} {Ie : Nat → Prop} {we : World} {l : Nat} {rec : Loop} {c : Nat}
theorem look1 {c : Nat} {ch : Ch} : lookB [(c, ch)] c = some ch := by rw [lookB_cons, if_pos rfl]
theorem look1_of {c d : Nat} {ch ch' : Ch} (h : lookB [(c, ch)] d = some ch') : d = c ∧ ch' = ch := by
 rw [lookB_cons] at h
 split at h
 · rename_i e; injection h with h; exact ⟨e.symm, h.symm⟩
 · cases h
/-- A call on the blocks is a call on the object. -/
theorem rng_lift {f : FuncId} {args : List SV} {res : SV} {Bx By : BL} (h : Fn P f args Bx [] res By) (ha : allAmong [c] args = true) (hr : res.among [] = true) :
   Fn P f args [(c, .obj (Ob.rng ρ0 kp Ie we l rec c Bx))] [] res [(c, .obj (Ob.rng ρ0 kp Ie we l rec c By))] := by
 refine ⟨h.1, fun ρ F I w vals hI hH hF hdj hlen hden => ?_⟩
 have hJ : rngR ρ0 kp Ie we l rec c Bx I (F c) w (ρ c) := hH c _ look1
 obtain ⟨h0, hl, ρi, G, q1, q1', q2, q3, q3', q4⟩ := hJ
 have hFc : ∀ b, F c b → b < w.heap.size ∧ ¬ I b := fun b hb => hF c _ look1 b hb
 have hll : l < w.heap.size := lt_of_heap hl
 have hlG : ¬ ∃ d ch, lookB Bx d = some ch ∧ G d l := fun ⟨d, ch, hd, hg⟩ => q3' d ch hd hg
 refine (h.2 ρi G I w vals hI q2 (fun d ch hd b hb => hFc b ((q4 b).2 (.inr ⟨d, ch, hd, hb⟩))) q3 hlen ?_).mono ?_
 · intro i v x hv hx
   refine DenV.mono (Ext.refl _ _) v x (fun j hj => ?_) (hden i v x hv hx)
   have := SV.among_has (allAmong_get ha hv) hj
   rw [List.mem_singleton] at this
   subst this
   exact q1
 · rintro e w' ⟨x, ρ', F', rfl, hfr, hρ, I', he1, he2, hH', hO, hDj, hden'⟩
   have hl' : w'.heap[l]? = some (.loop rec) := (hfr.block l hll hlG).trans hl
   have hlI : ¬ I' l := fun hi => by
     rcases (he2 l hi).2 with h | h | h
     · exact (hFc l ((q4 l).2 (.inl rfl))).2 h
     · exact hlG h
     · omega
   refine ⟨x, ρ, fun d => if d = c then (fun b => b = l ∨ ∃ d ch, lookB By d = some ch ∧ F' d b) else F d, rfl, hfr.mono fun b _ ⟨d, ch, hd, hg⟩ => ⟨c, _, look1, (q4 b).2 (.inr ⟨d, ch, hd, hg⟩)⟩, fun _ _ => rfl, I', he1, fun b hb => ⟨(he2 b hb).1, ?_⟩, ?_, ?_, ?_, ?_⟩
   · rcases (he2 b hb).2 with h | ⟨d, ch, hd, hg⟩ | h
     · exact .inl h
     · exact .inr (.inl ⟨c, _, look1, (q4 b).2 (.inr ⟨d, ch, hd, hg⟩)⟩)
     · exact .inr (.inr h)
   · intro d ch hd
     obtain ⟨rfl, rfl⟩ := look1_of hd
     simp only [if_true]
     refine ⟨h0.trans he1, hl', ρ', F', (hρ _ (by simp)).trans q1, fun d hd => (hρ d (by simp)).trans (q1' d hd), hH', hDj, fun d ch hd hg => ?_, fun b => Iff.rfl⟩
     rcases (hO d ch hd l hg).2.2 with h | h
     · exact hlG h
     · omega
   · intro d ch hd b hb
     obtain ⟨rfl, rfl⟩ := look1_of hd
     simp only [if_true] at hb
     rcases hb with rfl | ⟨d, ch, hd, hb⟩
     · exact ⟨lt_of_heap hl', hlI, .inl ⟨_, _, look1, (q4 _).2 (.inl rfl)⟩⟩
     · obtain ⟨r1, r2, r3⟩ := hO d ch hd b hb
       exact ⟨r1, r2, r3.imp (fun ⟨d, ch, hd, hg⟩ => ⟨_, _, look1, (q4 b).2 (.inr ⟨d, ch, hd, hg⟩)⟩) id⟩
   · intro d d' ch ch' b hd hd' hne
     exact absurd ((look1_of hd).1.trans (look1_of hd').1.symm) hne
   · exact DenV.mono (Ext.refl _ _) res x (fun j hj => by have := SV.among_has hr hj; cases this) hden'
/-! ### a round -/
def parK : List Nat → List SV → KL → KL
 | [], _, K => K
 | p :: pl, vs, K => match vs with
   | [] => K
   | v :: vs => parK pl vs ((p, v) :: K)
theorem par_slots {ρ : Nat → Pl} {I : Nat → Prop} {w : World} : ∀ (pl : List Nat) (vs : List SV) (vals : List Value) (K : KL) (t : Array Value), vals.length = vs.length → (∀ p, p ∈ pl → p < t.size) → (∀ (i : Nat) (v : SV) (x : Value), vs[i]? = some v → vals[i]? = some x → DenV ρ I w v x) →
   (∀ s, DenV ρ I w (look K s) (t.getD s undef)) → (((pl.zip vals).foldl (fun t (p : Nat × Value) => t.setIfInBounds p.1 p.2) t).size = t.size ∧ ∀ s, DenV ρ I w (look (parK pl vs K) s) (((pl.zip vals).foldl (fun t (p : Nat × Value) => t.setIfInBounds p.1 p.2) t).getD s undef))
 | [], vs, vals, K, t, _, _, _, h => ⟨rfl, h⟩
 | p :: pl, [], [], K, t, _, _, _, h => ⟨rfl, h⟩
 | p :: pl, [], _ :: _, K, t, hl, _, _, h => by simp at hl
 | p :: pl, _ :: _, [], K, t, hl, _, _, h => by simp at hl
 | p :: pl, v :: vs, x :: vals, K, t, hl, hp, hv, h => by
   have hp0 := hp p (List.mem_cons_self ..)
   obtain ⟨g1, g2⟩ := par_slots pl vs vals ((p, v) :: K) (t.setIfInBounds p x) (by simpa using hl) (fun q hq => by rw [Array.size_setIfInBounds]; exact hp q (List.mem_cons_of_mem _ hq)) (fun i u y hu hy => hv (i + 1) u y (by simpa using hu) (by simpa using hy)) (fun s => by
     rw [look_cons]
     by_cases e : p = s
     · subst e
       rw [if_pos rfl]
       have : (t.setIfInBounds p x).getD p undef = x := by simp [hp0]
       rw [this]
       exact hv 0 v x rfl rfl
     · rw [if_neg e]
       have : (t.setIfInBounds p x).getD s undef = t.getD s undef := by simp [Array.getElem?_setIfInBounds_ne e]
       rw [this]
       exact h s)
   refine ⟨?_, g2⟩
   rw [List.zip_cons_cons, List.foldl_cons]
   exact g1.trans (Array.size_setIfInBounds)
/-- What stood ahead and nobody wrote is still so. -/
theorem Mem.ext0 {ids : List Nat} {C : Ctx} {B : BL} {ρ : Nat → Pl} {F : Nat → Nat → Prop} {w : World} (h : Mem ids C B ρ F w) (hF : ∀ b, C.I0 b → ¬ C.F0 b) : Ext C.I0 C.w0 (Imm C B F w) w := fun b hb => by
 have h1 := h.marks.2.1 b (.inl hb)
 refine ⟨⟨Nat.lt_of_lt_of_le h1 h.fr.size, .inl hb, fun c ch hc hf => ?_⟩, h.fr.block b h1 (hF b hb)⟩
 rcases (h.own c ch hc b hf).2 with h2 | h2
 · exact hF b hb h2
 · have := h2.1; omega
set_option maxHeartbeats 1000000 in
theorem rng_yield (hP : TblOK P tt) {fn : FuncId} {tmps : Array Value} {ps : Array Nat} {pl : List Nat} {assign body : Code} {D : Nat} (hps : ps.toList = pl) (hpl : ∀ p, p ∈ pl → p < N) (hsz : tmps.size = N) (hcA : codeOK P N assign = true) (hcB : codeOK P N body = true)
   {KI : KL} (hKI : amongK kp KI = true) (hc : c ∈ kp) (hsl : ∀ s, DenV ρ0 Ie we (look KI s) (tmps.getD s undef)) (stops : List Nat) {vs : List SV} (hvl : vs.length = pl.length) (hva : allAmong [] vs = true) {Bx By : BL}
   (hvc : vc P tt N (0 :: kp) stops assign (parK pl vs KI) Bx (fun e K B => e = .nrm ∧ vc P tt N (0 :: kp) stops body K B (fun e K B => e = .nrm ∧ Le (0 :: kp) K B [] By))) :
   YieldX P l vs [(c, .obj (Ob.rng ρ0 kp Ie we l (recOf fn tmps ps assign body D .ready) c Bx))] (fun _ : Unit => vLit true) (fun _ => [(c, .obj (Ob.rng ρ0 kp Ie we l (recOf fn tmps ps assign body D .ready) c By))]) := by
 intro ρ F I w vals hI hH hF hdj hlen hden
 have hJ : rngR ρ0 kp Ie we l (recOf fn tmps ps assign body D .ready) c Bx I (F c) w (ρ c) := hH c _ look1
 obtain ⟨h0, hl, ρi, G, q1, q1', q2, q3, q3', q4⟩ := hJ
 have hFc : ∀ b, F c b → b < w.heap.size ∧ ¬ I b := fun b hb => hF c _ look1 b hb
 have hll : l < w.heap.size := lt_of_heap hl
 have hlG : ¬ ∃ d ch, lookB Bx d = some ch ∧ G d l := fun ⟨d, ch, hd, hg⟩ => q3' d ch hd hg
 have hlI0 : ¬ I l := (hFc l ((q4 l).2 (.inl rfl))).2
 have hGc : ∀ {d ch b}, lookB Bx d = some ch → G d b → F c b := fun {d ch b} hd hg => (q4 b).2 (.inr ⟨d, ch, hd, hg⟩)
 have hy := run_yield (P := P) (args := vals.toArray) hl (by rw [List.size_toArray, hlen, hvl, ← hps, Array.length_toList])
 refine ⟨fn, _, assign, body, hy, roundIn_of_wpIn (F := wideR none) trivial ?_⟩
 have htm : ((ps.zip vals.toArray).foldl (fun tmps (x : Nat × Value) => tmps.setIfInBounds x.1 x.2) tmps) = (pl.zip vals).foldl (fun t (p : Nat × Value) => t.setIfInBounds p.1 p.2) tmps := by
   rw [← hps, ← Array.foldl_toList]
   congr 1
   simp
 obtain ⟨g1, g2⟩ := par_slots (ρ := ρi) (I := I) (w := w) pl vs vals KI tmps hlen (fun p hp => by rw [hsz]; exact hpl p hp) (fun i v x hv hx => DenV.mono (Ext.refl _ _) v x (fun j hj => by have := SV.among_has (allAmong_get hva hv) hj; cases this) (hden i v x hv hx))
   (fun s => DenV.mono h0 _ _ (fun j hj => q1' j (SV.among_has (amongK_get hKI s) hj)) (hsl s))
 let C1 : Ctx := ⟨w, I, fun b => ∃ d ch, lookB Bx d = some ch ∧ G d b, ρi, []⟩
 have hImm : Ext I w (Imm C1 Bx G w) w := fun b hb => ⟨⟨hI b hb, .inl hb, fun d ch hd hg => (hFc b (hGc hd hg)).2 hb⟩, rfl⟩
 have hM1 : Mem (0 :: kp) C1 Bx ρi G w := ⟨Fr.refl _ _, fun d ch hd => Holds.stable hImm (fun _ _ => rfl) (Nat.le_refl _) ch (fun _ _ => rfl) (q2 d ch hd), fun d ch hd b hb => ⟨(hFc b (hGc hd hb)).1, .inl ⟨d, ch, hd, hb⟩⟩, q3, fun _ _ => rfl, List.nodup_nil,
   fun b hb => hb.elim (hI b) fun ⟨d, ch, hd, hg⟩ => (hFc b (hGc hd hg)).1, fun D hD => by cases hD⟩
 have hs1 : Sat N (0 :: kp) C1 (parK pl vs KI) Bx ⟨(ps.zip vals.toArray).foldl (fun tmps (x : Nat × Value) => tmps.setIfInBounds x.1 x.2) tmps, []⟩ w := by
   rw [htm]
   exact ⟨g1.trans hsz, rfl, ρi, G, hM1, fun s => DenV.mono hImm _ _ (fun _ _ => rfl) (g2 s)⟩
 refine vc_sound hP (drawOK hP) stops assign _ _ _ hcA hvc (some l) (fun h => by simp [inRnd] at h) C1 _ ?_ _ w hs1
 rintro e K2 B2 ds hds ⟨rfl, hvc2⟩ a1 w1 hs2
 have hds : ds = [] := hds (by simp [inRnd])
 subst hds
 obtain ⟨n1, d1, ρ1, F1, hM2, hS2⟩ := hs2
 have hM2 : Mem (0 :: kp) C1 B2 ρ1 F1 w1 := hM2
 have hl1 : w1.heap[l]? = some (.loop (recOf fn tmps ps assign body D .ready)) := (hM2.fr.block l hll hlG).trans hl
 have hll1 := lt_of_heap hl1
 have hlI : ¬ Imm C1 B2 F1 w1 l := fun hi => by
   rcases hi.2.1 with h | h | h
   · exact hlI0 h
   · exact hlG h
   · have h : w.heap.size ≤ l := h.1
     omega
 have hlF : ∀ d ch, lookB B2 d = some ch → ¬ F1 d l := fun d ch hd hf => by
   rcases (hM2.own d ch hd l hf).2 with h | h
   · exact hlG h
   · have h : w.heap.size ≤ l := h.1
     omega
 refine ⟨_, run_beginRound hl1 rfl, ?_⟩
 obtain ⟨w2, hw2⟩ : ∃ w2, w2 = w1.putObj l (.loop { recOf fn tmps ps assign body D .ready with state := .busy }) := ⟨_, rfl⟩
 rw [← hw2]
 have hsz2 : w2.heap.size = w1.heap.size := by rw [hw2, World.putObj_size]
 have hoth2 : ∀ b, b ≠ l → w2.heap[b]? = w1.heap[b]? := fun b hb => by rw [hw2]; exact World.putObj_heap_other hb
 have hl2 : w2.heap[l]? = some (.loop { recOf fn tmps ps assign body D .ready with state := .busy }) := by rw [hw2]; exact World.putObj_heap_same hll1
 have hos2 : w2.os = w1.os ∧ w2.tape = w1.tape ∧ w2.output = w1.output := by rw [hw2]; exact ⟨rfl, rfl, rfl⟩
 let C2 : Ctx := ⟨w2, Imm C1 B2 F1 w1, fun b => ∃ d ch, lookB B2 d = some ch ∧ F1 d b, ρ1, []⟩
 have hI2 : Ext (Imm C1 B2 F1 w1) w1 (Imm C2 B2 F1 w2) w2 := fun b hb => ⟨⟨by rw [hsz2]; exact hb.1, .inl hb, hb.2.2⟩, hoth2 b (fun e => hlI (e ▸ hb))⟩
 have hM3 : Mem (0 :: kp) C2 B2 ρ1 F1 w2 := ⟨Fr.refl _ _, fun d ch hd => Holds.stable hI2 (fun b hb => hoth2 b (fun e => hlF d ch hd (e ▸ hb))) (Nat.le_of_eq hsz2.symm) ch (fun _ _ => rfl) (hM2.holds d ch hd), fun d ch hd b hb => ⟨by rw [hsz2]; exact (hM2.own d ch hd b hb).1, .inl ⟨d, ch, hd, hb⟩⟩, hM2.disj, fun _ _ => rfl, List.nodup_nil,
   fun b hb => by
     show b < w2.heap.size
     rw [hsz2]
     exact hb.elim (fun hb => hb.1) fun ⟨d, ch, hd, hg⟩ => (hM2.own d ch hd b hg).1, fun D hD => by cases hD⟩
 refine vc_sound hP (drawOK hP) stops body _ _ _ hcB hvc2 (some l) (fun h => by simp [inRnd] at h) C2 _ ?_ a1 w2 ⟨n1, d1, ρ1, F1, hM3, hS2.mono hI2 fun _ _ _ => rfl⟩
 rintro e K3 B3 ds hds ⟨rfl, hle⟩ a3 w3 hs3
 have hds : ds = [] := hds (by simp [inRnd])
 subst hds
 obtain ⟨n3, d3, ρ3, F3, hM4, hS4⟩ := hle N (C2.at []) a3 w3 hs3
 have hM4 : Mem (0 :: kp) C2 By ρ3 F3 w3 := hM4
 have hl3 : w3.heap[l]? = some (.loop { recOf fn tmps ps assign body D .ready with state := .busy }) := (hM4.fr.block l (lt_of_heap hl2) (fun ⟨d, ch, hd, hg⟩ => hlF d ch hd hg)).trans hl2
 have hll3 := lt_of_heap hl3
 have hI3l : ¬ Imm C2 By F3 w3 l := fun hi => by
   rcases hi.2.1 with h | h | h
   · exact hlI h
   · obtain ⟨d, ch, hd, hg⟩ := h; exact hlF d ch hd hg
   · have h : w2.heap.size ≤ l := h.1
     omega
 have hF3l : ∀ d ch, lookB By d = some ch → ¬ F3 d l := fun d ch hd hf => by
   rcases (hM4.own d ch hd l hf).2 with h | h
   · obtain ⟨d, ch, hd, hg⟩ := h; exact hlF d ch hd hg
   · have h : w2.heap.size ≤ l := h.1
     omega
 obtain ⟨w4, hw4⟩ : ∃ w4, w4 = w3.putObj l (.loop (recOf fn tmps ps assign body D .ready)) := ⟨_, rfl⟩
 have hrun : (Instr.endRound l none).run P w3 = .ok (.bool true) w4 := by rw [hw4]; exact run_endRound none hl3
 refine ⟨.bool true, w4, hrun, ?_⟩
 have hsz4 : w4.heap.size = w3.heap.size := by rw [hw4, World.putObj_size]
 have hoth4 : ∀ b, b ≠ l → w4.heap[b]? = w3.heap[b]? := fun b hb => by rw [hw4]; exact World.putObj_heap_other hb
 have hl4 : w4.heap[l]? = some (.loop (recOf fn tmps ps assign body D .ready)) := by rw [hw4]; exact World.putObj_heap_same hll3
 have hos4 : w4.os = w3.os ∧ w4.tape = w3.tape ∧ w4.output = w3.output := by rw [hw4]; exact ⟨rfl, rfl, rfl⟩
 have e01 : Ext I w (Imm C1 B2 F1 w1) w1 := hM2.ext0 fun b hb ⟨d, ch, hd, hg⟩ => (hFc b (hGc hd hg)).2 hb
 have e12 : Ext (Imm C1 B2 F1 w1) w1 (Imm C1 B2 F1 w1) w2 := fun b hb => ⟨hb, (hI2 b hb).2⟩
 have e23 : Ext (Imm C1 B2 F1 w1) w2 (Imm C2 By F3 w3) w3 := hM4.ext0 fun b hb ⟨d, ch, hd, hg⟩ => hb.2.2 d ch hd hg
 have e34 : Ext (Imm C2 By F3 w3) w3 (Imm C2 By F3 w3) w4 := fun b hb => ⟨hb, hoth4 b (fun e => hI3l (e ▸ hb))⟩
 have eI : Ext I w (Imm C2 By F3 w3) w4 := e01.trans (e12.trans (e23.trans e34))
 have z01 := hM2.fr.size
 have z01 : w.heap.size ≤ w1.heap.size := z01
 have z23 : w2.heap.size ≤ w3.heap.size := hM4.fr.size
 have o1 : ∀ {b}, (C2.F0 b ∨ C2.w0.heap.size ≤ b ∧ b ∉ C2.ds) → F c b ∨ w.heap.size ≤ b := fun {b} h => by
   rcases h with ⟨d, ch, hd, hg⟩ | h
   · rcases (hM2.own d ch hd b hg).2 with ⟨d, ch, hd, hg⟩ | h
     · exact .inl (hGc hd hg)
     · exact .inr h.1
   · have h : w2.heap.size ≤ b := h.1
     exact .inr (by omega)
 refine ⟨(), .bool true, ρ, fun d => if d = c then (fun b => b = l ∨ ∃ d ch, lookB By d = some ch ∧ F3 d b) else F d, rfl, ?_, fun _ => rfl, Imm C2 By F3 w3, eI, fun b hb => ⟨by rw [hsz4]; exact hb.1, ?_⟩, ?_, ?_, ?_, rfl⟩
 · have f1 : Fr (fun b => F c b) w w1 := hM2.fr.mono fun b _ ⟨d, ch, hd, hg⟩ => hGc hd hg
   have f2 : Fr (fun b => b = l) w1 w2 := ⟨hos2.1, hos2.2.1, hos2.2.2, Nat.le_of_eq hsz2.symm, fun b _ hb => hoth2 b hb⟩
   have f3 : Fr C2.F0 w2 w3 := hM4.fr
   have f4 : Fr (fun b => b = l) w3 w4 := ⟨hos4.1, hos4.2.1, hos4.2.2, Nat.le_of_eq hsz4.symm, fun b _ hb => hoth4 b hb⟩
   have hcl : F c l := (q4 l).2 (.inl rfl)
   have f : Fr (fun b => F c b) w w4 := ((f1.trans f2 fun b _ (hb : b = l) => by rw [hb]; exact hcl).trans f3 fun b hb hf => by
     rcases o1 (.inl hf) with h | h
     · exact h
     · omega).trans f4 fun b _ (hb : b = l) => by rw [hb]; exact hcl
   exact f.mono fun b _ hb => ⟨c, _, look1, hb⟩
 · rcases hb.2.1 with h | h
   · rcases h.2.1 with h | ⟨d, ch, hd, hg⟩ | h
     · exact .inl h
     · exact .inr (.inl ⟨c, _, look1, hGc hd hg⟩)
     · exact .inr (.inr h.1)
   · exact .inr ((o1 h).imp (fun h => ⟨c, _, look1, h⟩) id)
 · intro d ch hd
   obtain ⟨rfl, rfl⟩ := look1_of hd
   simp only [if_true]
   have hk : ∀ d, d ∈ kp → ρ3 d = ρi d := fun d hd => (hM4.keep d (List.mem_cons_of_mem _ hd)).trans (hM2.keep d (List.mem_cons_of_mem _ hd))
   exact ⟨h0.trans eI, hl4, ρ3, F3, (hk _ hc).trans q1, fun d hd => (hk d hd).trans (q1' d hd), fun d ch hd => Holds.stable e34 (fun b hb => hoth4 b (fun e => hF3l d ch hd (e ▸ hb))) (Nat.le_of_eq hsz4.symm) ch (fun _ _ => rfl) (hM4.holds d ch hd), hM4.disj, hF3l, fun b => Iff.rfl⟩
 · intro d ch hd b hb
   obtain ⟨rfl, rfl⟩ := look1_of hd
   simp only [if_true] at hb
   rcases hb with rfl | ⟨d, ch, hd, hb⟩
   · exact ⟨by rw [hsz4]; exact hll3, hI3l, .inl ⟨_, _, look1, (q4 _).2 (.inl rfl)⟩⟩
   · obtain ⟨r1, r2⟩ := hM4.own d ch hd b hb
     exact ⟨by rw [hsz4]; exact r1, fun hi => hi.2.2 d ch hd hb, (o1 r2).imp (fun h => ⟨_, _, look1, h⟩) id⟩
 · intro d d' ch ch' b hd hd' hne
   exact absurd ((look1_of hd).1.trans (look1_of hd').1.symm) hne
/-! ### the statement -/
theorem exec_val {f : FuncId} {w : World} {cs args : Array Value} (hf : callable P f = true) : (invoke (.fn (.func f) cs) args).run P w = .ok (.enter f (args ++ cs)) w := by
 unfold callable at hf
 split at hf
 · rename_i fn hfn
   simp only [Bool.not_eq_true', Bool.or_eq_false_iff, beq_eq_false_iff_ne] at hf
   have h2 : ¬ fn.body = none := fun e => by rw [e] at hf; simp at hf
   simp [invoke, callFunc, go_sem, hfn]
   rw [if_neg hf.1, if_neg h2]
 · cases hf
set_option maxHeartbeats 1000000 in
theorem TrQ.range (hP : TblOK P tt) {ids : List Nat} (stops : List Nat) {s : Nat} {ps : Array Nat} {pl : List Nat} {assign body : Code} (hps : ps.toList = pl) (hcA : codeOK P N assign = true) (hcB : codeOK P N body = true) (hpl : (pl.all fun p => Nat.blt p N) = true)
   {f : FuncId} {caps : List Cap} (hf : callable P f = true) (kp : List Nat) (K KI : KL) (Bc : BL) {X : Type} (BI : X → BL) (c : Nat) (x0 xN : X) (Y : X → List SV → X → Prop)
   (hsk : look K s = .c (.one (.clo f caps))) (hKI : subK K KI)
   (hk : (kp.contains c && amongK kp KI && ids.all kp.contains && !inRnd ids) = true) (hbc : ((keysB (BI x0)).all (fun d => !(keysB Bc).contains d) && !(keysB Bc).contains c) = true)
   (hY : ∀ x vs x', Y x vs x' → vs.length = pl.length ∧ allAmong [] vs = true ∧ vc P tt N (0 :: kp) stops assign (parK pl vs KI) (BI x) (fun e K B => e = .nrm ∧ vc P tt N (0 :: kp) stops body K B (fun e K B => e = .nrm ∧ Le (0 :: kp) K B [] (BI x'))))
   (hit : ∀ (l : Nat) (J : X → Ob), (∀ f' args res x x', Fn P f' args (BI x) [] res (BI x') → allAmong [c] args = true → res.among [] = true → Fn P f' args [(c, .obj (J x))] [] res [(c, .obj (J x'))]) →
     (∀ x vs x', Y x vs x' → YieldX P l vs [(c, .obj (J x))] (fun _ : Unit => vLit true) (fun _ => [(c, .obj (J x'))])) →
     Fn P f (.c (.one (.raw (.func (.yield l) #[] #[]))) :: capV caps) (Bc ++ [(c, .obj (J x0))]) [] (.tup []) [(c, .obj (J xN))])
   {Q : Ex → KL → BL → Prop} (hQ : Q .nrm KI (BI xN)) : TrQ P N ids (.rangeFunc (.tmp s) ps assign body) K (Bc ++ BI x0) Q := by
 intro r hr C Qs hq a w hs
 simp only [Bool.and_eq_true, Bool.not_eq_true'] at hk hbc
 obtain ⟨⟨⟨hk1, hk2⟩, hk3⟩, hid⟩ := hk
 obtain ⟨hb1, hb2⟩ := hbc
 have hk1 := mem_of_contains hk1
 have hids : ∀ d, d ∈ ids → d ∈ kp := fun d hd => mem_of_contains (List.all_eq_true.1 hk3 d hd)
 have hcB0 : lookB Bc c = none := by
   cases e : lookB Bc c with
   | none => rfl
   | some ch => have := List.contains_iff_mem.2 (keysB_mem.2 ⟨ch, e⟩); rw [hb2] at this; cases this
 have hr := hr hid
 subst hr
 obtain ⟨hn, hd, ρ, F, hM, hS⟩ := hs
 have lkI : ∀ {d ch}, lookB (BI x0) d = some ch → lookB (Bc ++ BI x0) d = some ch ∧ lookB Bc d = none := fun {d ch} h => by
   have hk := List.all_eq_true.1 hb1 d (keysB_mem.2 ⟨ch, h⟩)
   have hn : lookB Bc d = none := by
     cases e : lookB Bc d with
     | none => rfl
     | some ch' => rw [List.contains_iff_mem.2 (keysB_mem.2 ⟨ch', e⟩)] at hk; cases hk
   exact ⟨by rw [lookB_app, hn]; exact h, hn⟩
 have lkC : ∀ {d ch}, lookB Bc d = some ch → lookB (Bc ++ BI x0) d = some ch := fun {d ch} h => by rw [lookB_app, h]
 refine wpIn_rangeFunc fun fn _ => ?_
 obtain ⟨rec, hrec⟩ : ∃ rec, rec = recOf fn a.tmps ps assign body w.heap.size .ready := ⟨_, rfl⟩
 obtain ⟨w1, hw1⟩ : ∃ w1, w1 = (w.alloc (.deferred (some []))).alloc (.loop rec) := ⟨_, rfl⟩
 have hB1 : Below w.heap.size w w1 := by rw [hw1]; exact ((Below.refl _ w).alloc (Nat.le_refl _) _).alloc (by simp) _
 have hsz1 : w1.heap.size = w.heap.size + 2 := by rw [hw1]; simp
 have hL1 : w1.heap[w.heap.size + 1]? = some (.loop rec) := by rw [hw1]; have := World.alloc_heap_new (w.alloc (.deferred (some []))) (.loop rec); rwa [World.size_alloc] at this
 have hD1 : w1.heap[w.heap.size]? = some (.deferred (some [])) := by rw [hw1]; exact (Below.heap_alloc _ _ _ (by simp)).trans (World.alloc_heap_new w _)
 obtain ⟨l, hl0⟩ : ∃ l, l = w.heap.size + 1 := ⟨_, rfl⟩
 rw [← hl0] at hL1
 let Ie := Imm C (Bc ++ BI x0) F w
 have hE1 : Ext Ie w Ie w1 := fun b hb => ⟨hb, hB1.block b hb.1⟩
 let J := fun x => Ob.rng ρ kp Ie w1 l rec c (BI x)
 have hv := hS s
 rw [hsk] at hv
 obtain ⟨cs, ev, hcp⟩ := hv
 obtain ⟨hcv1, hcv2⟩ := DenCaps.vals caps cs hcp
 have hsl : ∀ t, DenV ρ Ie w1 (look KI t) (a.tmps.getD t undef) := fun t => by
   rcases subK_get hKI t with h | h
   · exact DenV.mono hE1 _ _ (fun _ _ => rfl) (leV_den h (hS t))
   · rw [h]; trivial
 have hfn := hit l J (fun f' args res x x' h ha hr => rng_lift h ha hr) (fun x vs x' hy => by
   obtain ⟨y1, y2, y3⟩ := hY x vs x' hy
   show YieldX P l vs [(c, .obj (Ob.rng ρ kp Ie w1 l rec c (BI x)))] (fun _ : Unit => vLit true) (fun _ => [(c, .obj (Ob.rng ρ kp Ie w1 l rec c (BI x')))])
   rw [hrec]
   exact rng_yield hP hps (fun p hp => by have := List.all_eq_true.1 hpl p hp; simpa [Nat.blt_eq] using this) hn hcA hcB hk2 hk1 hsl stops y1 y2 y3)
 refine ⟨l, [markD w.heap.size], w1, { target := .fn (.func f) cs.toArray, args := #[.func (.yield l) #[] #[]] }, w1, f, #[.func (.yield l) #[] #[]] ++ cs.toArray, w1, ?_, ?_, fun _ _ => trivial, exec_val hf, fun h => absurd h (by simp), calls_in ?_⟩
 · rw [hw1, hl0, hrec]; exact run_enterLoop_outer _ _ _ _ _
 · have ev' : a.eval (.tmp s) = .func (.func f) #[] cs.toArray := ev
   simp only [resolve, ev']
   simp [go_sem]
 have hvals : #[Value.func (.yield l) #[] #[]] ++ cs.toArray = (Value.func (.yield l) #[] #[] :: cs).toArray := by simp
 rw [hvals]
 have hF1 : ∀ b, (∃ d ch, lookB (BI x0) d = some ch ∧ F d b) → b < w.heap.size := fun b ⟨d, ch, hd, hb⟩ => (hM.own d ch (lkI hd).1 b hb).1
 let F1 : Nat → Nat → Prop := fun d => if d = c then (fun b => b = l ∨ ∃ d ch, lookB (BI x0) d = some ch ∧ F d b) else F d
 have hcase : ∀ {d ch}, lookB (Bc ++ [(c, Ch.obj (J x0))]) d = some ch → (d = c ∧ ch = .obj (J x0)) ∨ (d ≠ c ∧ lookB Bc d = some ch) := fun {d ch} h => by
   rw [lookB_app] at h
   cases e : lookB Bc d with
   | some ch' =>
     rw [e] at h
     exact .inr ⟨fun ec => (by rw [ec, hcB0] at e; cases e), h⟩
   | none =>
     rw [e] at h
     obtain ⟨e1, e2⟩ := look1_of h
     exact .inl ⟨e1, e2⟩
 have hcl : lookB (Bc ++ [(c, Ch.obj (J x0))]) c = some (.obj (J x0)) := by rw [lookB_app, hcB0]; exact look1
 have hF1c : F1 c = (fun b => b = l ∨ ∃ d ch, lookB (BI x0) d = some ch ∧ F d b) := if_pos rfl
 have hF1d : ∀ {d}, d ≠ c → F1 d = F d := fun {d} h => if_neg h
 have hlw : w.heap.size ≤ l := by omega
 refine (hfn.2 ρ F1 Ie w1 _ (fun b hb => by have := hb.1; omega) ?_ ?_ ?_ (by simp [hcv1]) ?_).mono ?_
 · intro d ch hd
   rcases hcase hd with ⟨rfl, rfl⟩ | ⟨e, hd⟩
   · rw [hF1c]
     exact ⟨Ext.refl _ _, hL1, ρ, F, rfl, fun _ _ => rfl, fun d ch hd => Holds.stable hE1 (fun b hb => hB1.block b (hM.own d ch (lkI hd).1 b hb).1) hB1.size ch (fun _ _ => rfl) (hM.holds d ch (lkI hd).1), fun d d' ch ch' b h1 h2 => hM.disj d d' ch ch' b (lkI h1).1 (lkI h2).1,
       fun d ch hd hb => by have := (hM.own d ch (lkI hd).1 l hb).1; omega, fun b => Iff.rfl⟩
   · rw [hF1d e]
     exact Holds.stable hE1 (fun b hb => hB1.block b (hM.own d ch (lkC hd) b hb).1) hB1.size ch (fun _ _ => rfl) (hM.holds d ch (lkC hd))
 · intro d ch hd b hb
   rcases hcase hd with ⟨rfl, rfl⟩ | ⟨e, hd⟩
   · rw [hF1c] at hb
     rcases hb with rfl | ⟨d, ch, hd, hb⟩
     · exact ⟨lt_of_heap hL1, fun hi => by have := hi.1; omega⟩
     · have := (hM.own d ch (lkI hd).1 b hb).1
       exact ⟨by omega, fun hi => hi.2.2 d ch (lkI hd).1 hb⟩
   · rw [hF1d e] at hb
     have := (hM.own d ch (lkC hd) b hb).1
     exact ⟨by omega, fun hi => hi.2.2 d ch (lkC hd) hb⟩
 · intro d d' ch ch' b hd hd' hne hb hb'
   have key : ∀ {d ch b}, lookB Bc d = some ch → F d b → ¬ (b = l ∨ ∃ d ch, lookB (BI x0) d = some ch ∧ F d b) := fun {e1 c1 b1} k1 k2 hx => by
     rcases hx with hx | ⟨d2, ch2, k3, k4⟩
     · have := (hM.own e1 c1 (lkC k1) _ k2).1; omega
     · exact hM.disj e1 d2 c1 ch2 b1 (lkC k1) (lkI k3).1 (fun e => by rw [e, (lkI k3).2] at k1; cases k1) k2 k4
   rcases hcase hd with ⟨e, _⟩ | ⟨e, hd⟩ <;> rcases hcase hd' with ⟨e', _⟩ | ⟨e', hd'⟩
   · exact hne (e.trans e'.symm)
   · rw [e, hF1c] at hb
     rw [hF1d e'] at hb'
     exact key hd' hb' hb
   · rw [hF1d e] at hb
     rw [e', hF1c] at hb'
     exact key hd hb hb'
   · rw [hF1d e] at hb
     rw [hF1d e'] at hb'
     exact hM.disj d d' ch ch' b (lkC hd) (lkC hd') hne hb hb'
 · intro i v x hv hx
   match i with
   | 0 =>
     simp only [List.getElem?_cons_zero, Option.some.injEq] at hv hx
     subst hv hx
     rfl
   | i + 1 => exact DenV.mono hE1 v x (fun _ _ => rfl) (hcv2 i v x (by simpa using hv) (by simpa using hx))
 rintro e w2 ⟨x, ρ', F', rfl, hfr, hρ, I', he1, he2, hH', hO, hDj, -⟩
 have hJ : rngR ρ kp Ie w1 l rec c (BI xN) I' (F' c) w2 (ρ' c) := hH' c _ look1
 obtain ⟨h0, hl, ρi, G, q1, q1', q2, q3, q3', q4⟩ := hJ
 have hll := lt_of_heap hl
 obtain ⟨w4, hw4⟩ : ∃ w4, w4 = w2.putObj l (.loop { rec with state := .exhausted }) := ⟨_, rfl⟩
 have hrun : (Instr.endLoop l).run P w2 = .ok none w4 := by
   have h1 := run_endLoop (P := P) hl (by rw [hrec]; simp)
   have h2 : rec.pending = none := by rw [hrec]
   rw [hw4, h1, h2]
 refine ⟨none, w4, hrun, ?_⟩
 show Qs .normal { a with defers := [markD w.heap.size] ++ a.defers } w4
 have hsz4 : w4.heap.size = w2.heap.size := by rw [hw4, World.putObj_size]
 have hoth4 : ∀ b, b ≠ l → w4.heap[b]? = w2.heap[b]? := fun b hb => by rw [hw4]; exact World.putObj_heap_other hb
 have hos4 : w4.os = w2.os ∧ w4.tape = w2.tape ∧ w4.output = w2.output := by rw [hw4]; exact ⟨rfl, rfl, rfl⟩
 have z12 := hfr.size
 have hFl : ∀ {b}, F' c b → b < w2.heap.size ∧ ¬ I' b ∧ (b = l ∨ (∃ d ch, lookB (Bc ++ BI x0) d = some ch ∧ F d b) ∨ w1.heap.size ≤ b) := fun {b} hb => by
   obtain ⟨r1, r2, r3⟩ := hO c _ look1 b hb
   refine ⟨r1, r2, ?_⟩
   rcases r3 with ⟨d, ch, hd, hf⟩ | r3
   · rcases hcase hd with ⟨rfl, rfl⟩ | ⟨e, hd⟩
     · rw [hF1c] at hf
       exact hf.imp id fun ⟨d, ch, hd, hf⟩ => .inl ⟨d, ch, (lkI hd).1, hf⟩
     · rw [hF1d e] at hf
       exact .inr (.inl ⟨d, ch, lkC hd, hf⟩)
   · exact .inr (.inr r3)
 have hlI : ¬ I' l := (hFl ((q4 l).2 (.inl rfl))).2.1
 have hori2 : ∀ {b}, ((∃ d ch, lookB (Bc ++ BI x0) d = some ch ∧ F d b) ∨ w1.heap.size ≤ b) → (C.F0 b ∨ C.w0.heap.size ≤ b ∧ b ∉ w.heap.size :: C.ds) := fun {b} h => by
   rcases h with ⟨d, ch, hd, hf⟩ | h
   · obtain ⟨r1, r2⟩ := hM.own d ch hd b hf
     exact r2.imp id fun x => ⟨x.1, fun hm => (List.mem_cons.1 hm).elim (fun e => by omega) x.2⟩
   · have := hM.fresh (b := b) (by omega)
     exact .inr ⟨this.1, fun hm => (List.mem_cons.1 hm).elim (fun e => by omega) this.2⟩
 have hori : ∀ {b}, (Ie b ∨ (∃ d ch, lookB (Bc ++ BI x0) d = some ch ∧ F d b) ∨ w1.heap.size ≤ b) → (C.I0 b ∨ C.F0 b ∨ C.w0.heap.size ≤ b ∧ b ∉ w.heap.size :: C.ds) := fun {b} h => by
   rcases h with h | h
   · have h1 := h.1
     exact h.2.1.imp id fun x => x.imp id fun x => ⟨x.1, fun hm => (List.mem_cons.1 hm).elim (fun e => by omega) x.2⟩
   · exact .inr (hori2 h)
 have hE4 : Ext I' w2 (Imm (C.at (w.heap.size :: C.ds)) (BI xN) G w4) w4 := fun b hb => by
   have hne : b ≠ l := fun e => hlI (e ▸ hb)
   obtain ⟨r1, r2⟩ := he2 b hb
   refine ⟨⟨by rw [hsz4]; exact r1, hori ?_, fun d ch hd hg => (hFl ((q4 b).2 (.inr ⟨d, ch, hd, hg⟩))).2.1 hb⟩, hoth4 b hne⟩
   rcases r2 with r2 | ⟨d, ch, hd, hf⟩ | r2
   · exact .inl r2
   · rcases hcase hd with ⟨rfl, rfl⟩ | ⟨e, hd⟩
     · rw [hF1c] at hf
       rcases hf with hf | ⟨d, ch, hd, hf⟩
       · exact absurd hf hne
       · exact .inr (.inl ⟨d, ch, (lkI hd).1, hf⟩)
     · rw [hF1d e] at hf
       exact .inr (.inl ⟨d, ch, lkC hd, hf⟩)
   · exact .inr (.inr r2)
 refine hq .nrm KI (BI xN) (w.heap.size :: C.ds) (fun h => by rw [hid] at h; cases h) hQ _ _ ⟨hn, ?_, ρi, G, ⟨?_, ?_, ?_, q3, ?_, ?_, hM.marks.2.1, ?_⟩, ?_⟩
 · show [markD w.heap.size] ++ a.defers = List.map markD (w.heap.size :: C.ds)
   rw [hd]; rfl
 · refine (hM.fr.trans (S' := fun b => b = l ∨ ∃ d ch, lookB (Bc ++ BI x0) d = some ch ∧ F d b) ?_ fun b hb h => ?_)
   · have f1 : Fr (fun b => b = l ∨ ∃ d ch, lookB (Bc ++ BI x0) d = some ch ∧ F d b) w w1 := Fr.of_below hB1
     have f4 : Fr (fun b => b = l) w2 w4 := ⟨hos4.1, hos4.2.1, hos4.2.2, Nat.le_of_eq hsz4.symm, fun b _ hb => hoth4 b hb⟩
     refine (f1.trans hfr ?_).trans f4 fun b _ hb => .inl hb
     rintro b _ ⟨d, ch, hd, hf⟩
     rcases hcase hd with ⟨rfl, rfl⟩ | ⟨e, hd⟩
     · rw [hF1c] at hf
       exact hf.imp id fun ⟨d, ch, hd, hf⟩ => ⟨d, ch, (lkI hd).1, hf⟩
     · rw [hF1d e] at hf
       exact .inr ⟨d, ch, lkC hd, hf⟩
   · have z0 := hM.fr.size
     rcases h with h | ⟨d, ch, hd, hf⟩
     · omega
     · rcases (hM.own d ch hd b hf).2 with h | h
       · exact h
       · have := h.1; omega
 · exact fun d ch hd => Holds.stable hE4 (fun b hb => hoth4 b (fun e => q3' d ch hd (e ▸ hb))) (Nat.le_of_eq hsz4.symm) ch (fun _ _ => rfl) (q2 d ch hd)
 · intro d ch hd b hb
   obtain ⟨r1, r2, r3⟩ := hFl ((q4 b).2 (.inr ⟨d, ch, hd, hb⟩))
   have hne : b ≠ l := fun e => q3' d ch hd (e ▸ hb)
   exact ⟨by rw [hsz4]; exact r1, hori2 (r3.resolve_left hne)⟩
 · exact fun d hd => (q1' d (hids d hd)).trans (hM.keep d hd)
 · exact List.nodup_cons.2 ⟨fun h => by have := (hM.marks.2.2 _ h).1; omega, hM.marks.1⟩
 · intro D hD
   have hDl : D ≠ l ∧ D < w1.heap.size ∧ w1.heap[D]? = some (.deferred (some [])) ∧ C.w0.heap.size ≤ D := by
     rcases List.mem_cons.1 hD with rfl | hD
     · exact ⟨by omega, by omega, hD1, hM.fr.size⟩
     · obtain ⟨r1, r2, r3⟩ := hM.marks.2.2 D hD
       exact ⟨by omega, by omega, (hB1.block D r1).trans r2, r3⟩
   obtain ⟨s1, s2, s3, s4⟩ := hDl
   have hnf : ¬ ∃ d ch, lookB (Bc ++ [(c, Ch.obj (J x0))]) d = some ch ∧ F1 d D := by
     rintro ⟨d, ch, hd, hf⟩
     have h5 : ∃ d ch, lookB (Bc ++ BI x0) d = some ch ∧ F d D := by
       rcases hcase hd with ⟨rfl, rfl⟩ | ⟨e, hd⟩
       · rw [hF1c] at hf
         rcases hf with hf | ⟨d, ch, hd, hf⟩
         · exact absurd hf s1
         · exact ⟨d, ch, (lkI hd).1, hf⟩
       · rw [hF1d e] at hf
         exact ⟨d, ch, lkC hd, hf⟩
     obtain ⟨d, ch, hd, hf⟩ := h5
     obtain ⟨r1, r2⟩ := hM.own d ch hd D hf
     rcases List.mem_cons.1 hD with rfl | hD
     · omega
     · rcases r2 with r2 | r2
       · have := hM.marks.2.1 D (.inr r2); omega
       · exact r2.2 hD
   exact ⟨by rw [hsz4]; omega, (hoth4 D s1).trans ((hfr.block D s2 hnf).trans s3), s4⟩
 · intro t
   exact DenV.mono (he1.trans hE4) _ _ (fun j hj => q1' j (SV.among_has (amongK_get hk2 t) hj)) (hsl t)
end
end Go.Proofs.YteoamepgonpdlaaGreat
/-!
  Ranging over a map: the map's entries by their births, the iterator; what range, next, entry, delete do.
-/
namespace Go.Proofs.YteoamepgonpdlaaGreat
set_option linter.unusedVariables false
set_option linter.unusedSimpArgs false
open Go.RowKit
open Go.ChangeMaps (setBlock map_eraseIdx)
section
variable {P : Program} {ids : List Nat} {K : KL} {B : BL}
/-! ### the operations -/
/-! ### delete -/
/-! ### is a row of the call's own nil? -/
theorem opS_ownNil {o : Oper} {T T2 e' : TypeId} {x : Operand} {c : Nat} (ho : o.op = .binOp .eql T x (.const (.slice none 0 0)) T2) (hx : opv K x = .c (.one (.own c))) {e : TypeId} {u : U} {xs : List (El u)} (hc : lookB B c = some (.row e u xs)) (hT : P.underlying T = some (.slice e')) :
   OpS P ids o K B (fun v ef => ∃ b : Bool, (b = true → xs = []) ∧ v = .c (.one (.d (.lit b))) ∧ ef = ⟨[c], [], []⟩) := by
 rintro N C a w ⟨hn, hd, ρ, F, hM, hS⟩ hlt Kn Q hK
 obtain ⟨hF, hbk, cs, hown, hrec⟩ := hM.holds c _ hc
 have e1 : a.eval x = (ρ c).hdr := hS.ev hx
 have hrun : (execOp a.eval o).run P w = .ok (.value (.bool (ρ c).A.isNone)) w := by
   simp only [execOp, ho, e1, Pl.hdr]
   have e2 : a.eval (.const (.slice none 0 0)) = .slice none 0 0 := rfl
   have h := Lib.run_eql_slice_nil (P := P) w T e' (ρ c).A (ρ c).n (ρ c).cap 0 0 hT
   simp [e2, h, Result.andThen, eqGuard]
 unfold Oper.wp
 rw [hrun, Oper.upon_value]
 refine hK (.c (.one (.d (.lit (ρ c).A.isNone)))) ⟨[c], [], []⟩ _ _ ⟨_, fun hb => ?_, rfl, rfl⟩ ⟨put_size.trans hn, put_defers.trans hd, ρ, F, hM, hS.putO (fun e he => by rw [hn]; exact hlt e he) rfl⟩
 rcases hown.2 with ⟨_, h⟩ | ⟨g, cap, cur, h, _⟩
 · exact List.eq_nil_of_length_eq_zero h
 · have h1 : (ρ c).A = some ⟨g, 0, none⟩ := by simp only [Pl.hdr] at h; injection h
   rw [h1] at hb
   cases hb
end
end Go.Proofs.YteoamepgonpdlaaGreat
/-!
  Boxes by their addresses: a pool of single cells; loads through addresses.
-/
namespace Go.Proofs.YteoamepgonpdlaaGreat
set_option linter.unusedVariables false
set_option linter.unusedSimpArgs false
open Go.RowKit
/-- One cell. -/
def cellO (x : D) : Ob where
 R := fun I F w p => Holds (fun _ => p) I F w p (.cells [.d x])
 stable := fun I F w I' w' p h he hF hz => Holds.stable he hF hz (.cells [.d x]) (fun _ _ => rfl) h
theorem cellO_close {c : Nat} {x : D} : ∀ I F w p, grpR c [(c, .cells [.d x])] I F w p → (cellO x).R I F w p := by
 rintro I F w p ⟨ρ, G, h1, h2, h3, h4⟩
 have h := h2 c _ (by rw [lookB_cons, if_pos rfl])
 rw [h1] at h
 have hG : F = G c := by
   funext b
   refine propext ((h4 b).trans ⟨?_, fun g => ⟨c, _, by rw [lookB_cons, if_pos rfl], g⟩⟩)
   rintro ⟨d, ch, e, g⟩
   rw [lookB_cons] at e
   split at e
   · rename_i e2
     rw [← e2] at g
     exact g
   · cases e
 rw [hG]
 exact Holds.stable (Ext.refl _ _) (fun _ _ => rfl) (Nat.le_refl _) (.cells [.d x]) (fun d hd => by cases hd) h
section
variable {P : Program} {ids : List Nat} {K : KL} {B : BL}
/-- Is a list nil? -/
theorem opS_lstNil {o : Oper} {T T2 e' : TypeId} {x : Operand} {u : U} {xs : List (El u)} (ho : o.op = .binOp .eql T x (.const (.slice none 0 0)) T2) (hx : opv K x = .c (.one (.d (.lst u xs)))) (hT : P.underlying T = some (.slice e')) :
   OpS P ids o K B (fun v ef => ∃ b : Bool, (b = true → xs = []) ∧ v = .c (.one (.d (.lit b))) ∧ ef = ⟨[], [], []⟩) := by
 rintro N C a w ⟨hn, hd, ρ, F, hM, hS⟩ hlt Kn Q hK
 obtain ⟨A, cap, e1, h2, h3, h4⟩ : Den (Imm C B F w) w (.lst u xs) (a.eval x) := hS.ev hx
 injection e1 with e1
 have hrun : (execOp a.eval o).run P w = .ok (.value (.bool A.isNone)) w := by
   simp only [execOp, ho, e1]
   have e2 : a.eval (.const (.slice none 0 0)) = .slice none 0 0 := rfl
   have h := Lib.run_eql_slice_nil (P := P) w T e' A (List.length xs) cap 0 0 hT
   simp [e2, h, Result.andThen, eqGuard]
 unfold Oper.wp
 rw [hrun, Oper.upon_value]
 refine hK (.c (.one (.d (.lit A.isNone)))) ⟨[], [], []⟩ _ _ ⟨_, fun hb => ?_, rfl, rfl⟩ ⟨put_size.trans hn, put_defers.trans hd, ρ, F, hM, hS.putO (fun e he => by rw [hn]; exact hlt e he) rfl⟩
 rcases Nat.eq_zero_or_pos (List.length xs) with h | h
 · exact List.eq_nil_of_length_eq_zero h
 · obtain ⟨b, q, hA, _⟩ := h4 h
   rw [hA] at hb
   cases hb
/-- A box, put into a pool of boxes, its address named. -/
theorem LeX.box (s c q : Nat) {x : D} {L : List (Nat × Ob)} (hs : look K s = .c (.one (.ptr c 0))) (hc : lookB B c = some (.cells [.d x])) (hne : c ≠ q) (hq : lookB B q = some (.obj (.pool L))) :
   LeX ids K B (fun b : Nat => (s, .c (.one (.d (.adr (some b))))) :: K) (fun b => (q, .obj (.pool ((b, cellO x) :: L))) :: dropB ((c, .obj ((cellO x).at b)) :: (c, .obj (cellO x)) :: dropB B c) c) := by
 intro N C a w h
 have h1 := Le.close (ids := ids) (K := K) (B := B) c [(c, .cells [.d x])] (o := cellO x) ⟨hc, trivial⟩ (by simp [keysB]) cellO_close N C a w h
 obtain ⟨b, h2⟩ := LeX.name (ids := ids) s c (o := cellO x) hs (by rw [lookB_cons, if_pos rfl]) N C a w h1
 refine ⟨b, ?_⟩
 have hql : lookB ((c, Ch.obj ((cellO x).at b)) :: (c, .obj (cellO x)) :: dropBs (keysB [(c, Ch.cells [.d x])]) B) q = some (.obj (.pool L)) := by
   rw [lookB_cons, if_neg hne, lookB_cons, if_neg hne]
   show lookB (dropB B c) q = _
   rw [lookB_dropB, if_neg hne]
   exact hq
 exact Le.put (ids := ids) q c (o := cellO x) (b := b) (L := L) hne hql (by rw [lookB_cons, if_pos rfl]) N C a w h2
end
/-! ### calls that only read -/
theorem TrQ.ro {P : Program} {N : Nat} {ids : List Nat} {K : KL} {B : BL} {c : Code} {Q : Post} (f : Nat) (hN : N ≤ 1000000) (h : TrQ P N ids c ((1000000 + f, .undef) :: K) B Q) : TrQ P N ids c K B Q := by
 intro r hr C Qs hq a w hs
 refine h r hr C Qs hq a w ?_
 obtain ⟨hn, hd, ρ, F, hM, hS⟩ := hs
 refine ⟨hn, hd, ρ, F, hM, fun s => ?_⟩
 rw [look_cons]
 split
 · rename_i e
   subst e
   show a.tmps.getD (1000000 + f) undef = undef
   rw [Array.getD_eq_getD_getElem?, Array.getElem?_eq_none (by omega)]
   rfl
 · exact hS s
theorem opOK_callR {P : Program} {ids : List Nat} {K : KL} {B : BL} {o : Oper} {f : FuncId} {c : Call} {xs : List Operand} {Bi : BL} {res : SV} {Bo : BL} (ho : o.op = .call c) (h1 : c.callee = .value (.func f)) (h2 : c.args.toList = xs) (hf : Fn P f (xs.map (opv K)) Bi [] res Bo) (hsub : subB B Bi) (hok : outOK Bi [] Bo = true) (hsame : ∀ c, lookB Bo c = lookB Bi c) (N : Nat) :
   OpOK P N ids o K B res ⟨keysB Bi, [], []⟩ := by
 obtain ⟨v, e, ⟨rfl, rfl⟩, hO, _⟩ : Snd P N ids o K B (fun v e => v = res ∧ e = ⟨keysB Bi, [], effB Bi Bo⟩) := snd_call ho h1 h2 ⟨Bi, [], res, Bo, hf, hsub, by rw [hok]; rfl, by rw [forceV_eq]; exact ⟨rfl, rfl⟩⟩
 intro K' B' g1 g2 g3 C a w hs hlt Kn Q hK
 refine hO K' B' g1 g2 g3 C a w hs hlt Kn Q fun a' w' hs' => hK a' w' (hs'.congr (fun _ => rfl) fun d => ?_)
 show lookB B' d = lookB (applyB (effB Bi Bo) B') d
 rw [applyB_all Bi Bi [] Bo B' hok, hsame]
 cases hd : lookB Bi d with
 | none =>
   simp only
   rw [if_neg fun hk => by obtain ⟨ch, h⟩ := keysB_mem.1 hk; rw [hd] at h; cases h]
 | some ch => exact (g2 d (keysB_mem.2 ⟨ch, hd⟩)).trans (subB_get hsub hd)
/-- A literal slice of one text, as a row of one's own (asked for by a slot: 2000000 + its own). -/
theorem TrQ.bo {P : Program} {N : Nat} {ids : List Nat} {K : KL} {B : BL} {c : Code} {Q : Post} (d : Nat) (hN : N ≤ 1000000) (h : TrQ P N ids c ((1000000 + (1000000 + d), .undef) :: K) B Q) : TrQ P N ids c K B Q := TrQ.ro (1000000 + d) hN h
theorem opOK_buildOwn1 {P : Program} {ids : List Nat} {K : KL} {B : BL} {o : Oper} {T e d : Nat} {x : Operand} {s : List UInt8} {inf : TypeInfo} (ho : o.op = .buildSlice T 1 #[(0, x)]) (hT : P.underlying T = some (.slice e)) (hi : P.info? e = some inf) (hz : inf.zero = some (.string ⟨#[]⟩)) (hs : inf.size = 1)
   (hx : opv K x = .c (.one (.d (.str s)))) (N : Nat) : OpOK P N ids o K B (.c (.one (.own d))) ⟨[], [d], [(d, some (.row e .str [s]))]⟩ := by
 have m1 : x ∈ o.op.operands := by rw [ho]; simp [Op.operands]
 refine OpOK.make (fun d h => has_own h) fun K' B' g1 g2 C ρ F a w hM hS hn => ?_
 have e1 : a.eval x = .string ⟨List.toArray s⟩ := hS.ev ((g1 x m1).trans hx)
 refine ⟨.slice (some ⟨w.heap.size, 0, none⟩) 1 1, w.alloc (.cells (List.toArray [.string ⟨List.toArray s⟩]) e), ⟨w.heap.size, some ⟨w.heap.size, 0, none⟩, 1, 1⟩, fun b => b = w.heap.size, ?_, alloc_below w _, fun b hb => (by subst hb; exact ⟨Nat.le_refl _, by simp⟩), fun I he hb => ⟨⟨?_, ?_, [.string ⟨List.toArray s⟩], ?_, fun i y hy => ?_⟩, ?_⟩⟩
 · have hrun := run_buildSlice (P := P) w T e 1 (#[(0, x)].map fun p => (p.1, a.eval p.2)) (List.toArray [.string ⟨List.toArray s⟩]) inf (.string ⟨#[]⟩) hT hi hz (by rw [hs]; decide)
     (by rw [hs]; decide) (by
       rw [hs]
       have ev : (Value.string ⟨List.toArray s⟩).cells = #[.string ⟨List.toArray s⟩] := rfl
       simp [e1, Instr.fill, ev]
       rw [show Array.range 1 = #[0] from rfl]
       simp)
   unfold execOp
   simp only [ho, Sem.run_bind, hrun, Result.andThen_ok]
   rfl
 · intro b
   show b = w.heap.size ↔ some w.heap.size = some b
   rw [Option.some.injEq]
   exact eq_comm
 · intro b hb
   have hb : some w.heap.size = some b := hb
   injection hb with hb
   exact hb.symm
 · exact ownsRow_new w e 1 1 [.string ⟨List.toArray s⟩] rfl (by decide)
 · match i with
   | 0 =>
     have hy : some s = some y := hy
     injection hy with hy
     subst hy
     rfl
   | i + 1 =>
     have hy : (none : Option (List UInt8)) = some y := hy
     cases hy
 · simp only [DenV, DenC, DenS, upd_same]
   rfl
end Go.Proofs.YteoamepgonpdlaaGreat
/-!
  Arrays and structs as values; rows of numbers; functions compared with nil.
-/
namespace Go.Proofs.YteoamepgonpdlaaGreat
set_option linter.unusedVariables false
set_option linter.unusedSimpArgs false
open Go.RowKit
/-! ### things without addresses, written out -/
def valS : S1 → Value
 | .d (.int k n) => .int k n
 | .d (.bool b) => .bool b
 | .d (.lit b) => .bool b
 | .d (.str s) => .string ⟨List.toArray s⟩
 | _ => .nilFunc
def litS : S1 → Lit
 | .d (.int k n) => .int k n
 | .d (.bool b) => .bool b
 | .d (.lit b) => .bool b
 | .d (.str s) => .string s
 | _ => .nil
def plainS : S1 → Bool
 | .d (.int _ _) => true
 | .d (.bool _) => true
 | .d (.lit _) => true
 | .d (.str _) => true
 | _ => false
def valsL : List S1 → List Value
 | [] => []
 | s :: l => valS s :: valsL l
def litsL : List S1 → List Lit
 | [] => []
 | s :: l => litS s :: litsL l
def plainL : List S1 → Bool
 | [] => true
 | s :: l => plainS s && plainL l
theorem denL_vals {ρ : Nat → Pl} {I : Nat → Prop} {w : World} : ∀ {l : List S1} {vs : List Value}, plainL l = true → DenL ρ I w l vs → vs = valsL l
 | [], vs, _, h => h
 | s :: l, vs, hp, ⟨v, r, e, h1, h2⟩ => by
   simp only [plainL, Bool.and_eq_true] at hp
   have h3 := denL_vals hp.2 h2
   subst h3 e
   have : v = valS s := by
     cases s with
     | d x => cases x <;> first | exact h1 | (simp [plainS] at hp; done)
     | _ => simp [plainS] at hp
   rw [this]
   rfl
section
variable {P : Program} {tt : Tr} {ids : List Nat} {K : KL} {B : BL}
/-- Structs, arrays compared. -/
theorem opOK_eqDeep {o : Oper} {T T2 : TypeId} {x y : Operand} {lx ly : List S1} {m D : Nat} (ho : o.op = .binOp .eql T x y T2) (hg : P.eqGuardType P.depth T = false) (hk : P.keyTypeAt m T = true) (hm : m ≤ 10000)
   (hx : opv K x = .c (.agg lx)) (hy : opv K y = .c (.agg ly)) (hpl : (plainL lx && plainL ly) = true) (fx : (Value.agg (List.toArray (valsL lx))).formed P T = true) (fy : (Value.agg (List.toArray (valsL ly))).formed P T = true)
   (kx : P.keyLits D T (valsL lx) = some (litsL lx)) (ky : P.keyLits D T (valsL ly) = some (litsL ly)) {r : Bool} (hr : r = true ↔ litsL lx = litsL ly) (N : Nat) : OpOK P N ids o K B (.c (.one (.d (.bool r)))) ⟨[], [], []⟩ := by
 have m1 : x ∈ o.op.operands := by rw [ho]; simp [Op.operands]
 have m2 : y ∈ o.op.operands := by rw [ho]; simp [Op.operands]
 simp only [Bool.and_eq_true] at hpl
 refine OpOK.val fun K' B' g1 g2 C ρ F a w hM hS => ?_
 obtain ⟨vs, e1, h1⟩ := hS.ev ((g1 x m1).trans hx)
 obtain ⟨us, e2, h2⟩ := hS.ev ((g1 y m2).trans hy)
 have h1 := denL_vals hpl.1 h1
 have h2 := denL_vals hpl.2 h2
 subst h1 h2
 obtain ⟨q, hq, hiff⟩ := run_equalIn_deep (P := P) (10000 - m) m T hk w D D (.agg (List.toArray (valsL lx))) (.agg (List.toArray (valsL ly))) (litsL lx) (litsL ly) fx fy (by simpa [Value.cells] using kx) (by simpa [Value.cells] using ky)
 rw [show 10000 - m + m = 10000 by omega] at hq
 have hqr : q = r := by
   cases q <;> cases r
   · rfl
   · exact absurd (hiff.2 (hr.1 rfl)) (by simp)
   · exact absurd (hr.2 (hiff.1 rfl)) (by simp)
   · rfl
 subst hqr
 refine ⟨.bool q, ?_, rfl⟩
 simp only [execOp, ho, e1, e2, Sem.run_bind, run_eqGuard_agg w .eql T x y _ _ hg, Result.andThen_ok, run_eql_struct, hq, Sem.run_pure]
/-- A struct's part that is one cell. -/
theorem opOK_field {o : Oper} {T : TypeId} {x : Operand} {f : Nat} {l : List S1} {fs : Array Field} {fd : Field} {d : TypeDesc} {s : S1} (ho : o.op = .field T x f) (hT : P.underlying T = some (.struct fs)) (hfd : fs[f]? = some fd) (hd : P.underlying fd.type = some d) (hrow : d.isRow = false)
   (hx : opv K x = .c (.agg l)) (hs : l[fd.offset]? = some s) (N : Nat) : OpOK P N ids o K B (.c (.one s)) ⟨[], [], []⟩ := by
 have m1 : x ∈ o.op.operands := by rw [ho]; simp [Op.operands]
 refine OpOK.val fun K' B' g1 g2 C ρ F a w hM hS => ?_
 obtain ⟨vs, e1, h1⟩ := hS.ev ((g1 x m1).trans hx)
 obtain ⟨v, hv, hden⟩ := DenL.get _ _ h1 fd.offset s hs
 refine ⟨v, ?_, hden⟩
 have hagg : (Go.isAgg fd.type).run P w = .ok false w := by cases d <;> first | (simp [TypeDesc.isRow] at hrow; done) | simp [Go.isAgg, run_underlying hd]
 have hvs : (List.toArray vs)[fd.offset]? = some v := by simpa using hv
 simp only [execOp, ho, e1, Instr.field, Sem.run_bind, run_underlying hT, Result.andThen_ok, hfd, asAgg, Sem.run_pure, part, hagg, Bool.false_eq_true, if_false, hvs]
theorem cell_arr {n : Nat} {u : U} (g : List (El u)) (i q : Nat) (hq : q < sz u) : cellU (.arr n u) g (i * sz u + q) = cellU u (List.getD g i (dflt u)) q := by
 show cellU u (List.getD g ((i * sz u + q) / sz u) (dflt u)) ((i * sz u + q) % sz u) = _
 rw [show (i * sz u + q) / sz u = i by rw [Nat.mul_comm, Nat.mul_add_div (by omega), Nat.div_eq_of_lt hq, Nat.add_zero], show (i * sz u + q) % sz u = q by rw [Nat.mul_comm, Nat.mul_add_mod, Nat.mod_eq_of_lt hq]]
/-- An array's element: a struct, or an array. -/
theorem opOK_indexArr {o : Oper} {T : TypeId} {x i : Operand} {n e : Nat} {inf : TypeInfo} {d : TypeDesc} {u : U} {g : List (El u)} {j : Int} (ho : o.op = .index T x i) (hT : P.underlying T = some (.array n e)) (he : P.underlying e = some d) (hrow : d.isRow = true) (hi : P.info? e = some inf) (hz : inf.size = sz u)
   (hx : opv K x = .c (.agg (listU (.arr n u) g 0 (n * sz u)))) (hj : opv K i = .c (.one (.d (.int .i64 j)))) (h0 : 0 ≤ j) (h1 : j < n) (N : Nat) : OpOK P N ids o K B (.c (.agg (listU u (List.getD g j.toNat (dflt u)) 0 (sz u)))) ⟨[], [], []⟩ := by
 have m1 : x ∈ o.op.operands := by rw [ho]; simp [Op.operands]
 have m2 : i ∈ o.op.operands := by rw [ho]; simp [Op.operands]
 refine OpOK.val fun K' B' g1 g2 C ρ F a w hM hS => ?_
 obtain ⟨vs, e1, hd⟩ := hS.ev ((g1 x m1).trans hx)
 have e2 := hS.int ((g1 i m2).trans hj)
 have hlen : vs.length = n * sz u := (DenL.length _ _ hd).trans (listU_length (.arr n u) g _ _)
 have hagg : (Go.isAgg e).run P w = .ok true w := by cases d <;> first | (simp [TypeDesc.isRow] at hrow; done) | simp [Go.isAgg, run_underlying he]
 have hsz : (sizeOf e).run P w = .ok (sz u) w := by simp [sizeOf, typeInfo, hi, hz]
 have hle : j.toNat * sz u + sz u ≤ n * sz u := by
   have := Nat.mul_le_mul_right (sz u) (show j.toNat + 1 ≤ n by omega)
   rw [Nat.succ_mul] at this
   exact this
 refine ⟨.agg ((List.toArray vs).extract (j.toNat * sz u) (j.toNat * sz u + sz u)), ?_, (vs.drop (j.toNat * sz u)).take (sz u), by simp [List.extract], ?_⟩
 · simp [execOp, ho, e1, e2, Instr.index, asIntOf, run_underlying hT, h0, h1, hsz, part, hagg]
 · have key : ∀ (m o2 : Nat), o2 + m ≤ sz u → DenL ρ (Imm C B' F w) w (listU u (List.getD g j.toNat (dflt u)) o2 m) ((vs.drop (j.toNat * sz u + o2)).take m) := fun m => by
     induction m with
     | zero => intro o2 _; simp [listU, DenL]
     | succ m ih =>
       intro o2 hm
       have hlt : j.toNat * sz u + o2 < n * sz u := by omega
       obtain ⟨v, hv, hvd⟩ := DenL.get _ _ hd _ _ (listU_get (.arr n u) g (n * sz u) 0 (j.toNat * sz u + o2) hlt)
       have hdrop : vs.drop (j.toNat * sz u + o2) = v :: vs.drop (j.toNat * sz u + (o2 + 1)) := by
         obtain ⟨hl, hv'⟩ := List.getElem?_eq_some_iff.1 hv
         rw [List.drop_eq_getElem_cons hl, hv', Nat.add_assoc]
       rw [hdrop, List.take_succ_cons]
       refine ⟨v, _, rfl, ?_, ih (o2 + 1) (by omega)⟩
       have hc : cellU (.arr n u) g (0 + (j.toNat * sz u + o2)) = cellU u (List.getD g j.toNat (dflt u)) o2 := by
         rw [Nat.zero_add]
         exact cell_arr g _ _ (by omega)
       rw [hc] at hvd
       exact hvd
   exact key (sz u) 0 (by omega)
/-! ### an array of one's own -/
/-- Cells that are a value. -/
theorem Le.toVal (c : Nat) {u : U} {x : El u} (hw : WfU u x) (hc : lookB B c = some (.cells (listU u x 0 (sz u)))) : Le ids K B K ((c, .val u x) :: B) := by
 rintro N C a w ⟨hn, hd, ρ, F, hM, hS⟩
 obtain ⟨hF, vs, T, hb, hden⟩ := hM.holds c _ hc
 obtain ⟨hM', hE⟩ := hM.turn (w' := w) (ch := .val u x) hc (Fr.refl _ _) fun I hI => ⟨hF, vs, T, hb, by rw [DenL.length _ _ hden, listU_length], listU_mk hw (DenL.mono (ρ' := ρ) hI _ _ (fun _ _ => rfl) hden)⟩
 exact ⟨hn, hd, ρ, F, hM', hS.mono hE fun _ _ _ => rfl⟩
theorem opOK_indexVal {o : Oper} {T : TypeId} {x i : Operand} {n e c : Nat} {inf : TypeInfo} {s : Nat} {j : Int} (ho : o.op = .indexAddr T x i) (hT : P.underlying T = some (.array n e)) (hi : P.info? e = some inf) (hz : inf.size = s)
   (hx : opv K x = .c (.one (.ptr c 0))) (hj : opv K i = .c (.one (.d (.int .i64 j)))) (h0 : 0 ≤ j) (h1 : j < n) (N : Nat) : OpOK P N ids o K B (.c (.one (.rp c s j.toNat 0))) ⟨[], [], []⟩ := by
 have m1 : x ∈ o.op.operands := by rw [ho]; simp [Op.operands]
 have m2 : i ∈ o.op.operands := by rw [ho]; simp [Op.operands]
 refine OpOK.val fun K' B' g1 g2 C ρ F a w hM hS => ?_
 have e1 := hS.ptr ((g1 x m1).trans hx)
 have e2 := hS.int ((g1 i m2).trans hj)
 have hsz : (sizeOf e).run P w = .ok s w := by simp [sizeOf, typeInfo, hi, hz]
 refine ⟨.pointer (some ⟨(ρ c).blk, j.toNat * s, none⟩), ?_, rfl⟩
 simp [execOp, ho, e1, e2, Instr.indexAt, asIntOf, run_underlying hT, h0, h1, hsz, Instr.sureAddr, addr_add]
theorem denU_set {I : Nat → Prop} {w : World} {n : Nat} {u : U} {g : List (El u)} {c : Nat → Option Value} (hd : DenU I w (.arr n u) g c) {y : El u} {j : Nat} {cs : List Value} (hl : cs.length = sz u) (hy : DenU I w u y (fun i => cs[i]?)) (hj : j < n) :
   DenU I w (.arr n u) (g.set j y) (fun i => if j * sz u ≤ i ∧ i < j * sz u + sz u then cs[i - j * sz u]? else c i) := by
 obtain ⟨h1, h2⟩ := hd
 refine ⟨by rw [List.length_set]; exact h1, fun i z hz => ?_⟩
 unfold lget at hz
 rw [List.getElem?_set] at hz
 split at hz
 · rename_i e
   subst e
   split at hz
   · injection hz with hz
     subst hz
     refine DenU.mono (Ext.refl _ _) u y _ _ (fun q v hv => ?_) hy
     have hq : q < sz u := by rw [← hl]; exact (List.getElem?_eq_some_iff.1 hv).1
     simp only
     rw [if_pos ⟨by omega, by omega⟩, show j * sz u + q - j * sz u = q by omega]
     exact hv
   · cases hz
 · rename_i hne
   have hwf := h2 i z hz
   rcases Nat.eq_zero_or_pos (sz u) with h0 | h0
   · refine DenU.mono (Ext.refl _ _) u z _ _ (fun q v hv => ?_) hwf
     simp only
     rw [if_neg (by omega)]
     exact hv
   · refine DenU.mk u z _ (DenU.wf u z _ hwf) fun q hq => ?_
     obtain ⟨v, hv, hvd⟩ := DenU.cell u z _ q hwf hq
     refine ⟨v, ?_, hvd⟩
     simp only
     rw [if_neg ?_]
     · exact hv
     · rintro ⟨a1, a2⟩
       rcases Nat.lt_or_gt_of_ne hne with hlt | hgt
       · have := Nat.mul_le_mul_right (sz u) (show j + 1 ≤ i by omega)
         rw [Nat.succ_mul] at this
         omega
       · have := Nat.mul_le_mul_right (sz u) (show i + 1 ≤ j by omega)
         rw [Nat.succ_mul] at this
         omega
theorem opOK_storeVal {o : Oper} {T : TypeId} {x v : Operand} {c n j : Nat} {u : U} {g : List (El u)} {y : El u} {inf : TypeInfo} (ho : o.op = .store T x v) (hi : P.info? T = some inf) (hz : inf.size = sz u) (hx : opv K x = .c (.one (.rp c (sz u) j 0))) (hj : j < n)
   (hc : lookB B c = some (.val (.arr n u) g)) (hv : opv K v = .c (.agg (listU u y 0 (sz u)))) (hw : WfU u y) (N : Nat) : OpOK P N ids o K B .undef ⟨[c], [], [(c, some (.val (.arr n u) (g.set j y)))]⟩ := by
 have m1 : x ∈ o.op.operands := by rw [ho]; simp [Op.operands]
 have m2 : v ∈ o.op.operands := by rw [ho]; simp [Op.operands]
 refine OpOK.turn hc fun K' B' g1 C ρ F a w hM hS hl' => ?_
 obtain ⟨hF, vs, T', hb, hlen, hden⟩ := hM.holds c _ hl'
 have e1 := hS.rp ((g1 x m1).trans hx)
 obtain ⟨us, e2, h2⟩ := hS.ev ((g1 v m2).trans hv)
 have hul : us.length = sz u := by rw [DenL.length _ _ h2, listU_length]
 have hud := listU_mk hw h2
 have hfit : j * sz u + us.length ≤ vs.length := by
   have := Nat.mul_le_mul_right (sz u) (show j + 1 ≤ n by omega)
   rw [Nat.succ_mul] at this
   rw [hlen, hul]
   exact this
 have hone : ∀ z, z ∈ us → z.oneCell' = true := fun z hz => by
   obtain ⟨q, hq, rfl⟩ := List.getElem_of_mem hz
   obtain ⟨z', hz', ho'⟩ := DenU.one u y _ hud q (by omega)
   rw [List.getElem?_eq_getElem hq] at hz'
   injection hz' with hz'
   rw [hz']
   exact ho'
 have hrun := exec_store (P := P) (o := o) (ev := a.eval) (w := w) (us := us) ho (by rw [e1, Nat.add_zero]) (by rw [e2]; rfl) hi (hz.trans hul.symm) hb hfit hone
 have hset : (w.setRow (ρ c).blk (List.toArray (vs.take (j * sz u) ++ us ++ vs.drop (j * sz u + us.length)))).heap[(ρ c).blk]? = some (.cells (List.toArray (vs.take (j * sz u) ++ us ++ vs.drop (j * sz u + us.length))) T' (0, 0)) := setRow_heap w _ _ _ T' _ hb
 refine ⟨_, hrun, ⟨rfl, rfl, rfl, by simp [World.setRow], fun k _ hk => setRow_other w _ k _ (fun e => hk ((hF k).2 e))⟩, fun I hE => ⟨hF, _, T', hset, ?_, ?_⟩⟩
 · rw [List.length_append, List.length_append, List.length_take, List.length_drop]
   omega
 · refine DenU.mk (.arr n u) (g.set j y) _ ?_ ?_
   · have hwg := DenU.wf (.arr n u) g _ hden
     refine ⟨by rw [List.length_set]; exact hwg.1, fun z hz => ?_⟩
     rcases List.mem_or_eq_of_mem_set hz with hz | rfl
     · exact hwg.2 z hz
     · exact hw
   · intro q hq
     have hnew := denU_set hden (y := y) (j := j) hul hud hj
     obtain ⟨z, hz, hzd⟩ := DenU.cell (.arr n u) _ _ q hnew hq
     refine ⟨z, ?_, Den.mono hE _ _ hzd⟩
     rw [← hz]
     have hq' : q < vs.length := by rw [hlen]; exact hq
     split
     · rename_i hin
       rw [List.append_assoc, List.getElem?_append_right (by rw [List.length_take]; omega), List.length_take, List.getElem?_append_left (by omega)]
       congr 1
       omega
     · rename_i hout
       rcases Nat.lt_or_ge q (j * sz u) with hlt | hge
       · rw [List.append_assoc, List.getElem?_append_left (by rw [List.length_take]; omega), List.getElem?_take, if_pos hlt]
       · have : j * sz u + sz u ≤ q := by
           rcases Nat.lt_or_ge q (j * sz u + sz u) with h | h
           · exact absurd ⟨hge, h⟩ hout
           · exact h
         rw [List.getElem?_append_right (by rw [List.length_append, List.length_take]; omega), List.length_append, List.length_take, List.getElem?_drop]
         congr 1
         omega
theorem opOK_loadVal {o : Oper} {T : TypeId} {x : Operand} {c : Nat} {u : U} {y : El u} {inf : TypeInfo} {d : TypeDesc} (ho : o.op = .load T x) (hT : P.underlying T = some d) (hrow : d.isRow = true) (hi : P.info? T = some inf) (hz : inf.size = sz u) (hx : opv K x = .c (.one (.ptr c 0)))
   (hc : lookB B c = some (.val u y)) (N : Nat) : OpOK P N ids o K B (.c (.agg (listU u y 0 (sz u)))) ⟨[c], [], []⟩ := by
 have m1 : x ∈ o.op.operands := by rw [ho]; simp [Op.operands]
 refine OpOK.val fun K' B' g1 g2 C ρ F a w hM hS => ?_
 obtain ⟨hF, vs, T', hb, hlen, hden⟩ := hM.holds c _ ((g2 c (by simp)).trans hc)
 have e1 := hS.ptr ((g1 x m1).trans hx)
 obtain ⟨us, h1, h2⟩ := listU_den (ρ := ρ) hden (sz u) 0 (by omega)
 refine ⟨_, exec_loadn (cs := us) ho e1 hT hrow hi (by rw [DenL.length _ _ h1, listU_length]; exact hz) (fun j v hj => ?_), us, rfl, h1⟩
 have := h2 j v hj
 exact cell_of hb this
/-- A literal without parts: zero. -/
theorem opOK_build0 {tt : Tr} (hP : TblOK P tt) {o : Oper} {T n e : Nat} {ti : TI} (ho : o.op = .build T #[]) (ht : tt.find T = some ti) (hT : P.underlying T = some (.array n e)) {ie : TypeInfo} (hie : P.info? e = some ie) (hrow : ti.row = true) (N : Nat) : OpOK P N ids o K B (.c (.agg ti.zero)) ⟨[], [], []⟩ := by
 refine OpOK.val fun K' B' g1 g2 C ρ F a w hM hS => ?_
 obtain ⟨i, d, hok⟩ := hP.at_ ht
 obtain ⟨z, hz, hzl⟩ := hok.zero
 obtain ⟨z1, z2⟩ := zeroL_den (ρ := ρ) (I := Imm C B' F w) (w := w) _ _ hzl
 refine ⟨.agg z.cells, ?_, z.cells.toList, by simp, z1⟩
 simp [execOp, ho, Instr.build, zeroValue, typeInfo, hok.info, hz, run_underlying hT, sizeOf, hie, Instr.fill]
/-- Numbers, all 0. -/
theorem opOK_makeInts {o : Oper} {T e d : Nat} {x y : Operand} {inf : TypeInfo} {n : Int} (ho : o.op = .makeSlice T x y) (hT : P.underlying T = some (.slice e)) (hi : P.info? e = some inf) (hz : inf.zero = some (.int .i64 0)) (hs : inf.size = 1) (hb : inf.bytes = 8)
   (hx : opv K x = .c (.one (.d (.int .i64 n)))) (hy : opv K y = .c (.one (.d (.int .i64 n)))) (h0 : 0 ≤ n) (h1 : n ≤ 1000000) (N : Nat) : OpOK P N ids o K B (.c (.one (.own d))) ⟨[], [d], [(d, some (.row e (.int .i64) (List.replicate n.toNat (0 : Int))))]⟩ := by
 have m1 : x ∈ o.op.operands := by rw [ho]; simp [Op.operands]
 have m2 : y ∈ o.op.operands := by rw [ho]; simp [Op.operands]
 refine OpOK.make (fun d h => has_own h) fun K' B' g1 g2 C ρ F a w hM hS hn => ?_
 have hx' := hS.int ((g1 x m1).trans hx)
 have hy' := hS.int ((g1 y m2).trans hy)
 have hrun := run_make (P := P) w T e inf _ hT hi hz .i64 .i64 n n h0 (Int.le_refl _) (by rw [hb]; omega) (by omega)
 have hcells : madeCells (Value.int .i64 0).cells (n.toNat * inf.size) = (List.replicate n.toNat (Value.int .i64 0)).toArray := by
   rw [hs]
   simp [madeCells, Value.cells]
   apply Array.ext
   · simp
   · intro i h1 h2
     simp [Nat.mod_one]
 rw [hcells] at hrun
 refine ⟨.slice (some ⟨w.heap.size, 0, none⟩) n.toNat n.toNat, w.alloc (.cells (List.replicate n.toNat (.int .i64 0)).toArray e), ⟨w.heap.size, some ⟨w.heap.size, 0, none⟩, n.toNat, n.toNat⟩, fun b => b = w.heap.size, ?_, alloc_below w _, fun b hb => ?_, fun I hE hI => ⟨⟨?_, ?_, List.replicate n.toNat (.int .i64 0), ?_, ?_⟩, ?_⟩⟩
 · simp only [execOp, ho, Sem.run_bind, hx', hy', hrun, Result.andThen_ok, Sem.run_pure]
 · subst hb; simp
 · intro b
   simp [Pl.hdr, Value.ownBlock, eq_comm]
 · intro b hb
   simp [Pl.hdr, Value.ownBlock] at hb
   exact hb.symm
 · have := ownsRow_new w e 1 n.toNat (List.replicate n.toNat (.int .i64 0)) (by simp) (by simp only [maxLen]; omega)
   have e1 : List.length (α := El (.int .i64)) (List.replicate n.toNat (0 : Int)) = n.toNat := List.length_replicate
   rw [e1]
   exact this
 · intro i z hz
   obtain ⟨hi, hz'⟩ := List.getElem?_eq_some_iff.1 hz
   have hz2 : z = (0 : Int) := by rw [← hz']; exact List.getElem_replicate ..
   subst hz2
   have hi : i < n.toNat := by
     have h1 : i < List.length (α := Int) (List.replicate n.toNat (0 : Int)) := hi
     rw [List.length_replicate] at h1
     exact h1
   show (List.replicate n.toNat (Value.int .i64 0))[i * 1 + 0]? = some (.int .i64 0)
   simp [hi]
 · simp only [DenV, DenC, DenS, upd_same]
   rfl
theorem run_eql_func (w : World) {T : TypeId} {ps rs : Array TypeId} {va : Bool} (hT : P.underlying T = some (.func ps rs va)) (f : Go.Fn) (a b : Array Value) : (binOp .eql T (.func f a b) .nilFunc).run P w = .ok (.bool false) w ∧ (binOp .neq T (.func f a b) .nilFunc).run P w = .ok (.bool true) w := by
 have h0 : ∀ d, (Op.equalIn (d + 1) T (.func f a b) .nilFunc).run P w = .ok false w := fun d => by simp [Op.equalIn, run_underlying hT]
 have h : (Op.equalIn 10000 T (.func f a b) .nilFunc).run P w = .ok false w := h0 9999
 constructor
 · simp only [binOp]
   simp [Op.equal, Op.maxDepth, h]
 · simp only [binOp]
   simp [Op.equal, Op.maxDepth, h]
theorem opOK_fnNil {o : Oper} {T T2 : TypeId} {x : Operand} {op : BinOp} {y : Nat × List Nat} {b : Bool} {ps rs : Array TypeId} {va : Bool} (hop : (op = .eql ∧ b = false) ∨ (op = .neq ∧ b = true)) (ho : o.op = .binOp op T x (.const .nilFunc) T2) (hT : P.underlying T = some (.func ps rs va))
   (hx : opv K x = .c (.one (.d (.fn y)))) (N : Nat) : OpOK P N ids o K B (.c (.one (.d (.lit b)))) ⟨[], [], []⟩ := by
 have m1 : x ∈ o.op.operands := by rw [ho]; simp [Op.operands]
 refine OpOK.val fun K' B' g1 g2 C ρ F a w hM hS => ?_
 have e1 : a.eval x = fnV y := hS.ev ((g1 x m1).trans hx)
 refine ⟨.bool b, ?_, rfl⟩
 have e2 : a.eval (.const .nilFunc) = .nilFunc := rfl
 rcases hop with ⟨rfl, rfl⟩ | ⟨rfl, rfl⟩
 · have h := (run_eql_func (P := P) w hT (.func y.1) #[] (List.toArray (ptrsV y.2))).1
   simp [execOp, ho, e1, e2, eqGuard, fnV, h]
 · have h := (run_eql_func (P := P) w hT (.func y.1) #[] (List.toArray (ptrsV y.2))).2
   simp [execOp, ho, e1, e2, eqGuard, fnV, h]
theorem run_eql_nilfunc (w : World) {T : TypeId} {ps rs : Array TypeId} {va : Bool} (hT : P.underlying T = some (.func ps rs va)) : (binOp .eql T .nilFunc .nilFunc).run P w = .ok (.bool true) w ∧ (binOp .neq T .nilFunc .nilFunc).run P w = .ok (.bool false) w := by
 have h0 : ∀ d, (Op.equalIn (d + 1) T .nilFunc .nilFunc).run P w = .ok true w := fun d => by simp [Op.equalIn, run_underlying hT]
 have h : (Op.equalIn 10000 T .nilFunc .nilFunc).run P w = .ok true w := h0 9999
 constructor
 · simp only [binOp]
   simp [Op.equal, Op.maxDepth, h]
 · simp only [binOp]
   simp [Op.equal, Op.maxDepth, h]
theorem opOK_nilNil {o : Oper} {T T2 : TypeId} {x : Operand} {op : BinOp} {b : Bool} {ps rs : Array TypeId} {va : Bool} (hop : (op = .eql ∧ b = true) ∨ (op = .neq ∧ b = false)) (ho : o.op = .binOp op T x (.const .nilFunc) T2) (hT : P.underlying T = some (.func ps rs va))
   (hx : opv K x = .c (.one (.raw .nilFunc))) (N : Nat) : OpOK P N ids o K B (.c (.one (.d (.lit b)))) ⟨[], [], []⟩ := by
 have m1 : x ∈ o.op.operands := by rw [ho]; simp [Op.operands]
 refine OpOK.val fun K' B' g1 g2 C ρ F a w hM hS => ?_
 have e1 := hS.raw ((g1 x m1).trans hx)
 refine ⟨.bool b, ?_, rfl⟩
 have e2 : a.eval (.const .nilFunc) = .nilFunc := rfl
 rcases hop with ⟨rfl, rfl⟩ | ⟨rfl, rfl⟩
 · have h := (run_eql_nilfunc (P := P) w hT).1
   simp [execOp, ho, e1, e2, eqGuard, h]
 · have h := (run_eql_nilfunc (P := P) w hT).2
   simp [execOp, ho, e1, e2, eqGuard, h]
end
end Go.Proofs.YteoamepgonpdlaaGreat
