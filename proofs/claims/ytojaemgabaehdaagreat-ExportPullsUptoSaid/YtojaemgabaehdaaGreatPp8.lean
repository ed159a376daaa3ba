/-
Part 8 of the proof that stands in YtojaemgabaehdaaGreatPpRow, with what it needs from the parts ahead; the parts of this text: Grp, Cd, Ok, Iu, Ex.
-/
import Derived.Test.YtojaemgabaehdaaGreatPp7
/-!
  Objects: several blocks as one; a pool of objects by their addresses.
-/
namespace Go.Proofs.YtojaemgabaehdaaGreat
set_option linter.unusedVariables false
set_option linter.unusedSimpArgs false
open Go.RowKit
/-- Several blocks, numbered within; c is where it begins. -/
def grpR (c : Nat) (Bl : BL) (I F : Nat → Prop) (w : World) (p : Pl) : Prop :=
 ∃ (ρ : Nat → Pl) (G : Nat → Nat → Prop), ρ c = p ∧ (∀ d ch, lookB Bl d = some ch → Holds ρ I (G d) w (ρ d) ch) ∧
   (∀ d d' ch ch' b, lookB Bl d = some ch → lookB Bl d' = some ch' → d ≠ d' → G d b → ¬ G d' b) ∧ ∀ b, F b ↔ ∃ d ch, lookB Bl d = some ch ∧ G d b
def Ob.grp (c : Nat) (Bl : BL) : Ob where
 R := grpR c Bl
 stable := fun I F w I' w' p ⟨ρ, G, h1, h2, h3, h4⟩ he hF hz => ⟨ρ, G, h1, fun d ch hd => Holds.stable he (fun b hb => hF b ((h4 b).2 ⟨d, ch, hd, hb⟩)) hz ch (fun _ _ => rfl) (h2 d ch hd), h3, h4⟩
/-- .. that lies at b. -/
def Ob.at (o : Ob) (b : Nat) : Ob where
 R := fun I F w p => p.blk = b ∧ o.R I F w p
 stable := fun I F w I' w' p h he hF hz => ⟨h.1, o.stable I F w I' w' p h.2 he hF hz⟩
/-- A pool of objects, by their addresses. -/
def poolR (I : Nat → Prop) (w : World) : List (Nat × Ob) → (Nat → Prop) → Prop
 | [], F => ∀ b, ¬ F b
 | (a, o) :: L, F => ∃ (F1 F2 : Nat → Prop) (p : Pl), (∀ b, F b ↔ F1 b ∨ F2 b) ∧ (∀ b, F1 b → ¬ F2 b) ∧ p.blk = a ∧ o.R I F1 w p ∧ poolR I w L F2
theorem poolR.stable {I I' : Nat → Prop} {w w' : World} (he : Ext I w I' w') (hz : w.heap.size ≤ w'.heap.size) : ∀ {L : List (Nat × Ob)} {F : Nat → Prop}, (∀ b, F b → w'.heap[b]? = w.heap[b]?) → poolR I w L F → poolR I' w' L F
 | [], _, _, h => h
 | (a, o) :: L, F, hF, ⟨F1, F2, p, h1, h2, h3, h4, h5⟩ => ⟨F1, F2, p, h1, h2, h3, o.stable _ _ _ _ _ _ h4 he (fun b hb => hF b ((h1 b).2 (.inl hb))) hz, h5.stable he hz (fun b hb => hF b ((h1 b).2 (.inr hb)))⟩
def Ob.pool (L : List (Nat × Ob)) : Ob where
 R := fun I F w _ => poolR I w L F
 stable := fun I F w I' w' p h he hF hz => h.stable he hz hF
def pget : List (Nat × Ob) → Nat → Option Ob
 | [], _ => none
 | (a, o) :: L, b => if a = b then some o else pget L b
def pset : List (Nat × Ob) → Nat → Ob → List (Nat × Ob)
 | [], _, _ => []
 | (a, o) :: L, b, o' => if a = b then (a, o') :: L else (a, o) :: pset L b o'
/-- One taken out; and put back, turned. -/
theorem poolR.out {I : Nat → Prop} {w : World} {b : Nat} {o : Ob} : ∀ {L : List (Nat × Ob)} {F : Nat → Prop}, pget L b = some o → poolR I w L F → ∃ (F1 F2 : Nat → Prop) (p : Pl), (∀ x, F x ↔ F1 x ∨ F2 x) ∧ (∀ x, F1 x → ¬ F2 x) ∧ p.blk = b ∧ o.R I F1 w p ∧
   ∀ (I' : Nat → Prop) (w' : World) (o' : Ob) (F1' : Nat → Prop) (p' : Pl), Ext I w I' w' → w.heap.size ≤ w'.heap.size → (∀ x, F2 x → w'.heap[x]? = w.heap[x]?) → p'.blk = b → o'.R I' F1' w' p' → (∀ x, F1' x → ¬ F2 x) → poolR I' w' (pset L b o') (fun x => F1' x ∨ F2 x)
 | [], F, h, _ => by cases h
 | (a, q) :: L, F, h, ⟨G1, G2, p, h1, h2, h3, h4, h5⟩ => by
   unfold pget at h
   split at h
   · rename_i e
     injection h with h
     subst h
     refine ⟨G1, G2, p, h1, h2, h3.trans e, h4, fun I' w' o' F1' p' he hz hf hp ho hd => ?_⟩
     unfold pset
     rw [if_pos e]
     exact ⟨F1', G2, p', fun x => Iff.rfl, hd, hp.trans e.symm, ho, h5.stable he hz hf⟩
   · rename_i e
     obtain ⟨F1, F2, p1, g1, g2, g3, g4, g5⟩ := poolR.out h h5
     refine ⟨F1, fun x => G1 x ∨ F2 x, p1, fun x => ?_, fun x hx => ?_, g3, g4, fun I' w' o' F1' p' he hz hf hp ho hd => ?_⟩
     · rw [h1, g1]
       constructor
       · rintro (h | h | h)
         · exact .inr (.inl h)
         · exact .inl h
         · exact .inr (.inr h)
       · rintro (h | h | h)
         · exact .inr (.inl h)
         · exact .inl h
         · exact .inr (.inr h)
     · rintro (h | h)
       · exact h2 x h ((g1 x).2 (.inl hx))
       · exact g2 x hx h
     · unfold pset
       rw [if_neg e]
       refine ⟨G1, fun x => F1' x ∨ F2 x, p, fun x => ?_, fun x hx => ?_, h3, q.stable _ _ _ _ _ _ h4 he (fun x hx => hf x (.inl hx)) hz, g5 I' w' o' F1' p' he hz (fun x hx => hf x (.inr hx)) hp ho (fun x hx h => hd x hx (.inr h))⟩
       · constructor
         · rintro (h | h | h)
           · exact .inr (.inl h)
           · exact .inl h
           · exact .inr (.inr h)
         · rintro (h | h | h)
           · exact .inr (.inl h)
           · exact .inl h
           · exact .inr (.inr h)
       · rintro (h | h)
         · exact hd x h (.inl hx)
         · exact h2 x hx ((g1 x).2 (.inr h))
/-- A new one put in. -/
theorem poolR.add {I : Nat → Prop} {w : World} {L : List (Nat × Ob)} {F F1 : Nat → Prop} {o : Ob} {p : Pl} (h : poolR I w L F) (ho : o.R I F1 w p) (hd : ∀ x, F1 x → ¬ F x) : poolR I w ((p.blk, o) :: L) (fun x => F1 x ∨ F x) :=
 ⟨F1, F, p, fun _ => Iff.rfl, hd, rfl, ho, h⟩
theorem FnX.fn {P : Program} {f : FuncId} {args : List SV} {Bi : BL} {nw : List Nat} {res : SV} {Bo : BL} (h : FnX P f args Bi nw (fun _ : Unit => res) (fun _ => Bo)) : Fn P f args Bi nw res Bo :=
 ⟨h.1, fun ρ F I w vals a1 a2 a3 a4 a5 a6 => (h.2 ρ F I w vals a1 a2 a3 a4 a5 a6).mono fun e w' ⟨_, q⟩ => q⟩
/-- A contract on one of a pool. -/
theorem FnX.pool {P : Program} {f : FuncId} {c q b : Nat} {args : List SV} {Bi : BL} {nw : List Nat} {X : Type} {res : X → SV} {Bo : X → BL} {o : Ob} {o' : X → Ob} {L : List (Nat × Ob)}
   (h : FnX P f (.c (.one (.ptr c 0)) :: args) ((c, .obj o) :: Bi) nw res (fun g => (c, .obj (o' g)) :: Bo g)) (hL : pget L b = some o)
   (h1 : (args.all fun v => !v.has c) = true) (h2 : noB c Bi = true ∧ (lookB Bi q).isNone = true) (h3 : (nw.contains c || nw.contains q) = false) (h4 : ∀ g, (noB c (Bo g) && (lookB (Bo g) q).isNone && !(res g).has c) = true) :
   FnX P f (.c (.one (.d (.adr (some b)))) :: args) ((q, .obj (.pool L)) :: Bi) nw res (fun g => (q, .obj (.pool (pset L b (o' g)))) :: Bo g) := by
 obtain ⟨hcall, h⟩ := h
 refine ⟨hcall, fun ρ F I w vals hI hH hF hdj hlen hden => ?_⟩
 have hq : lookB ((q, Ch.obj (.pool L)) :: Bi) q = some (.obj (.pool L)) := by rw [lookB_cons, if_pos rfl]
 have hP : poolR I w L (F q) := hH q _ hq
 obtain ⟨F1, F2, p, k1, k2, k3, k4, k5⟩ := hP.out hL
 obtain ⟨nb1, nb2⟩ := noB_has h2.1
 have hqn : lookB Bi q = none := by simpa using h2.2
 have hBi : ∀ {d ch}, lookB Bi d = some ch → d ≠ q ∧ d ≠ c ∧ lookB ((q, Ch.obj (.pool L)) :: Bi) d = some ch := fun {d ch} hd => by
   have e1 : d ≠ q := fun e => by rw [e, hqn] at hd; cases hd
   exact ⟨e1, fun e => (by rw [e, nb1] at hd; cases hd), by rw [lookB_cons, if_neg (Ne.symm e1)]; exact hd⟩
 have hρ0 : ∀ (v : SV), v.has c = false → ∀ d, v.has d = true → upd ρ c p d = ρ d := fun v hv d hd => upd_other _ _ (fun e => by rw [e, hv] at hd; cases hd)
 match vals, hlen with
 | v0 :: vals, hlen =>
   have hv0 : v0 = .pointer (some ⟨b, 0, none⟩) := hden 0 _ v0 rfl rfl
   have hcase : ∀ {d ch}, lookB ((c, Ch.obj o) :: Bi) d = some ch → (d = c ∧ ch = .obj o) ∨ (d ≠ c ∧ lookB Bi d = some ch) := fun {d ch} hd => by
     rw [lookB_cons] at hd
     split at hd
     · rename_i e; injection hd with hd; exact .inl ⟨e.symm, hd.symm⟩
     · rename_i e; exact .inr ⟨Ne.symm e, hd⟩
   refine (h (upd ρ c p) (upd F c F1) I w (v0 :: vals) hI ?_ ?_ ?_ (by simpa using hlen) ?_).mono ?_
   · intro d ch hd
     rcases hcase hd with ⟨rfl, rfl⟩ | ⟨e, hd⟩
     · rw [upd_same, upd_same]; exact k4
     · rw [upd_other _ _ e, upd_other _ _ e]
       exact Holds.stable (Ext.refl _ _) (fun _ _ => rfl) (Nat.le_refl _) ch (fun j hj => upd_other _ _ (fun e' => by rw [e', nb2 d ch hd] at hj; cases hj)) (hH d ch (hBi hd).2.2)
   · intro d ch hd x hx
     rcases hcase hd with ⟨rfl, rfl⟩ | ⟨e, hd⟩
     · rw [upd_same] at hx
       exact hF q _ hq x ((k1 x).2 (.inl hx))
     · rw [upd_other _ _ e] at hx
       exact hF d ch (hBi hd).2.2 x hx
   · intro d d' ch ch' x hd hd' hne hx hx'
     rcases hcase hd with ⟨ed, _⟩ | ⟨e, hdb⟩
     · rcases hcase hd' with ⟨ed', _⟩ | ⟨e', hdb'⟩
       · exact hne (ed.trans ed'.symm)
       · rw [ed, upd_same] at hx
         rw [upd_other _ _ e'] at hx'
         exact hdj q d' _ ch' x hq (hBi hdb').2.2 (Ne.symm (hBi hdb').1) ((k1 x).2 (.inl hx)) hx'
     · rw [upd_other _ _ e] at hx
       rcases hcase hd' with ⟨ed', _⟩ | ⟨e', hdb'⟩
       · rw [ed', upd_same] at hx'
         exact hdj q d _ ch x hq (hBi hdb).2.2 (Ne.symm (hBi hdb).1) ((k1 x).2 (.inl hx')) hx
       · rw [upd_other _ _ e'] at hx'
         exact hdj d d' ch ch' x (hBi hdb).2.2 (hBi hdb').2.2 hne hx hx'
   · intro i v x hv hx
     match i with
     | 0 =>
       simp only [List.getElem?_cons_zero, Option.some.injEq] at hv hx
       subst hv hx
       show v0 = _
       rw [upd_same, k3]
       exact hv0
     | i + 1 =>
       have hv' : args[i]? = some v := by simpa using hv
       have := List.all_eq_true.1 h1 v (List.mem_of_getElem? hv')
       exact DenV.mono (Ext.refl _ _) v x (hρ0 v (by simpa using this)) (hden (i + 1) v x (by simpa using hv) hx)
   · rintro e w' ⟨g, x, ρ', F', rfl, hfr, hρ, I', he1, he2, hH', hO, hDj, hden'⟩
     have hg := h4 g
     simp only [Bool.and_eq_true, Bool.not_eq_true'] at hg
     obtain ⟨⟨g1, g2⟩, g3⟩ := hg
     obtain ⟨m1, m2⟩ := noB_has g1
     have hqo : lookB (Bo g) q = none := by simpa using g2
     simp only [Bool.or_eq_false_iff] at h3
     have hcn : c ∉ nw := fun hh => by have := List.contains_iff_mem.2 hh; rw [h3.1] at this; cases this
     have hqn' : q ∉ nw := fun hh => by have := List.contains_iff_mem.2 hh; rw [h3.2] at this; cases this
     have hcc : lookB ((c, Ch.obj (o' g)) :: Bo g) c = some (.obj (o' g)) := by rw [lookB_cons, if_pos rfl]
     have hBo : ∀ {d ch}, lookB (Bo g) d = some ch → d ≠ c ∧ d ≠ q ∧ lookB ((c, Ch.obj (o' g)) :: Bo g) d = some ch := fun {d ch} hd => by
       have e1 : d ≠ c := fun e => by rw [e, m1] at hd; cases hd
       exact ⟨e1, fun e => (by rw [e, hqo] at hd; cases hd), by rw [lookB_cons, if_neg (Ne.symm e1)]; exact hd⟩
     have hFr : ∀ y, (∃ d ch, lookB ((c, Ch.obj o) :: Bi) d = some ch ∧ upd F c F1 d y) → ∃ d ch, lookB ((q, Ch.obj (.pool L)) :: Bi) d = some ch ∧ F d y := by
       rintro y ⟨d, ch, hd, hy⟩
       rcases hcase hd with ⟨rfl, rfl⟩ | ⟨e, hd⟩
       · rw [upd_same] at hy
         exact ⟨q, _, hq, (k1 y).2 (.inl hy)⟩
       · rw [upd_other _ _ e] at hy
         exact ⟨d, ch, (hBi hd).2.2, hy⟩
     have hF2 : ∀ y, F2 y → ¬ ∃ d ch, lookB ((c, Ch.obj o) :: Bi) d = some ch ∧ upd F c F1 d y := by
       rintro y hy ⟨d, ch, hd, hy'⟩
       rcases hcase hd with ⟨rfl, rfl⟩ | ⟨e, hd⟩
       · rw [upd_same] at hy'
         exact k2 y hy' hy
       · rw [upd_other _ _ e] at hy'
         exact hdj q d _ ch y hq (hBi hd).2.2 (Ne.symm (hBi hd).1) ((k1 y).2 (.inr hy)) hy'
     have hF2s : ∀ y, F2 y → y < w.heap.size ∧ ¬ I y := fun y hy => hF q _ hq y ((k1 y).2 (.inr hy))
     have hold : ∀ y, F2 y → w'.heap[y]? = w.heap[y]? := fun y hy => hfr.block y (hF2s y hy).1 (hF2 y hy)
     have hnot : ∀ d ch y, lookB ((c, Ch.obj (o' g)) :: Bo g) d = some ch → F' d y → ¬ F2 y := fun d ch y hd hy h2y => by
       rcases (hO d ch hd y hy).2.2 with h | h
       · exact hF2 y h2y h
       · have := (hF2s y h2y).1; omega
     have hρc : ρ' c = p := by rw [hρ c hcn, upd_same]
     have hnew := k5 I' w' (o' g) (F' c) (ρ' c) he1 hfr.size hold (by rw [hρc]; exact k3) (hH' c _ hcc) (fun y hy => hnot c _ y hcc hy)
     refine ⟨g, x, upd ρ' c (ρ c), fun d => if d = q then (fun y => F' c y ∨ F2 y) else F' d, rfl, hfr.mono fun y _ hy => hFr y hy, fun d hd => ?_, I', he1, fun y hy => ⟨(he2 y hy).1, ?_⟩, ?_, ?_, ?_, ?_⟩
     · by_cases e : d = c
       · subst e; rw [upd_same]
       · rw [upd_other _ _ e, hρ d hd, upd_other _ _ e]
     · rcases (he2 y hy).2 with h | h | h
       · exact .inl h
       · exact .inr (.inl (hFr y h))
       · exact .inr (.inr h)
     · intro d ch hd
       rw [lookB_cons] at hd
       split at hd
       · rename_i e
         injection hd with hd
         subst hd e
         simp only [if_true]
         exact hnew
       · rename_i e
         obtain ⟨e1, e2, e3⟩ := hBo hd
         simp only [if_neg e2]
         rw [upd_other _ _ e1]
         exact Holds.stable (Ext.refl _ _) (fun _ _ => rfl) (Nat.le_refl _) ch (fun j hj => upd_other _ _ (fun e' => by rw [e', m2 d ch hd] at hj; cases hj)) (hH' d ch e3)
     · intro d ch hd y hy
       rw [lookB_cons] at hd
       split at hd
       · rename_i e
         subst e
         simp only [if_true] at hy
         rcases hy with hy | hy
         · obtain ⟨a1, a2, a3⟩ := hO c _ hcc y hy
           exact ⟨a1, a2, a3.imp (hFr y) id⟩
         · refine ⟨Nat.lt_of_lt_of_le (hF2s y hy).1 hfr.size, fun hi => ?_, .inl ⟨q, _, hq, (k1 y).2 (.inr hy)⟩⟩
           rcases (he2 y hi).2 with h | h | h
           · exact (hF2s y hy).2 h
           · exact hF2 y hy h
           · have := (hF2s y hy).1; omega
       · obtain ⟨e1, e2, e3⟩ := hBo hd
         simp only [if_neg e2] at hy
         obtain ⟨a1, a2, a3⟩ := hO d ch e3 y hy
         exact ⟨a1, a2, a3.imp (hFr y) id⟩
     · intro d d' ch ch' y hd hd' hne hy hy'
       rw [lookB_cons] at hd hd'
       split at hd
       · rename_i e
         subst e
         rw [if_neg hne] at hd'
         obtain ⟨e1, e2, e3⟩ := hBo hd'
         simp only [if_true] at hy
         simp only [if_neg e2] at hy'
         rcases hy with hy | hy
         · exact hDj c d' _ ch' y hcc e3 (Ne.symm e1) hy hy'
         · exact hnot d' ch' y e3 hy' hy
       · obtain ⟨e1, e2, e3⟩ := hBo hd
         simp only [if_neg e2] at hy
         split at hd'
         · rename_i e
           subst e
           simp only [if_true] at hy'
           rcases hy' with hy' | hy'
           · exact hDj d c ch _ y e3 hcc e1 hy hy'
           · exact hnot d ch y e3 hy hy'
         · obtain ⟨e1', e2', e3'⟩ := hBo hd'
           simp only [if_neg e2'] at hy'
           exact hDj d d' ch ch' y e3 e3' hne hy hy'
     · exact DenV.mono (Ext.refl _ _) (res g) x (fun j hj => upd_other _ _ (fun e' => by rw [e', g3] at hj; cases hj)) hden'
theorem lookB_app : ∀ (B B' : BL) (c : Nat), lookB (B ++ B') c = (match lookB B c with
   | some ch => some ch
   | none => lookB B' c)
 | [], B', c => rfl
 | (d, ch) :: B, B', c => by
   rw [List.cons_append, lookB_cons, lookB_cons, lookB_app B B' c]
   split <;> rfl
def noneIn (l : List Nat) : BL → Bool
 | [] => true
 | (c, ch) :: B => !l.contains c && (l.all fun d => !ch.has d) && noneIn l B
theorem noneIn_get {l : List Nat} : ∀ {B : BL}, noneIn l B = true → ∀ {c ch}, lookB B c = some ch → c ∉ l ∧ ∀ d, d ∈ l → ch.has d = false
 | (c, ch) :: B, h, d, ch', hd => by
   simp only [noneIn, Bool.and_eq_true, Bool.not_eq_true'] at h
   rw [lookB_cons] at hd
   split at hd
   · rename_i e
     subst e
     injection hd with hd
     subst hd
     refine ⟨fun hh => ?_, fun x hx => ?_⟩
     · have := List.contains_iff_mem.2 hh
       rw [h.1.1] at this
       cases this
     · have := List.all_eq_true.1 h.1.2 x hx
       simpa using this
   · exact noneIn_get h.2 hd
def hidOf (inn nw nw' : List Nat) : List Nat := inn ++ nw.filter fun d => !nw'.contains d
theorem mem_of_contains {l : List Nat} {d : Nat} (h : l.contains d = true) : d ∈ l := List.contains_iff_mem.1 h
theorem not_mem_of {l : List Nat} {d : Nat} (h : l.contains d = false) : d ∉ l := fun hh => by rw [List.contains_iff_mem.2 hh] at h; cases h
def closeIn (c : Nat) (inn : List Nat) (args : List SV) (Bl Bi : BL) (nw nw' : List Nat) : Bool :=
 (keysB Bl).contains c && (keysB Bl).all (fun d => (c :: inn).contains d) && amongB (c :: inn) Bl && !nw.contains c && !inn.contains c && nw'.all (fun d => nw.contains d && !inn.contains d) && (args.all fun v => inn.all fun d => !v.has d) && noneIn inn Bi && (lookB Bi c).isNone
def closeOut (c : Nat) (hid : List Nat) (res : SV) (Bl' Bo : BL) : Bool :=
 (keysB Bl').contains c && (keysB Bl').all (fun d => (c :: hid).contains d) && noneIn hid Bo && (lookB Bo c).isNone && (hid.all fun d => !res.has d)
/-- A contract on blocks laid open, as one on the object that they are. -/
theorem FnX.close {P : Program} {f : FuncId} {c : Nat} {args : List SV} {Bl Bi : BL} {nw nw' : List Nat} {X : Type} {res : X → SV} {Bl' Bo : X → BL} {o : Ob} {o' : X → Ob} (inn : List Nat)
   (h : FnX P f args (Bl ++ Bi) nw res (fun g => Bl' g ++ Bo g)) (hin : ∀ I F w p, o.R I F w p → grpR c Bl I F w p) (hout : ∀ g I F w p, grpR c (Bl' g) I F w p → (o' g).R I F w p)
   (h1 : closeIn c inn args Bl Bi nw nw' = true) (h2 : ∀ g, closeOut c (hidOf inn nw nw') (res g) (Bl' g) (Bo g) = true) :
   FnX P f args ((c, .obj o) :: Bi) nw' res (fun g => (c, .obj (o' g)) :: Bo g) := by
 obtain ⟨hcall, h⟩ := h
 simp only [closeIn, Bool.and_eq_true, Bool.not_eq_true', Option.isNone_iff_eq_none] at h1
 obtain ⟨⟨⟨⟨⟨⟨⟨⟨a1, a2⟩, a3⟩, a4⟩, a5⟩, a6⟩, a7⟩, a8⟩, a9⟩ := h1
 have a1 := mem_of_contains a1
 have a4 := not_mem_of a4
 have a5 := not_mem_of a5
 have a2' : ∀ d, d ∈ keysB Bl → d = c ∨ d ∈ inn := fun d hd => by
   have := mem_of_contains (List.all_eq_true.1 a2 d hd)
   exact List.mem_cons.1 this
 have a6' : ∀ d, d ∈ nw' → d ∈ nw ∧ d ∉ inn := fun d hd => by
   have := List.all_eq_true.1 a6 d hd
   simp only [Bool.and_eq_true, Bool.not_eq_true'] at this
   exact ⟨mem_of_contains this.1, not_mem_of this.2⟩
 refine ⟨hcall, fun ρ F I w vals hI hH hF hdj hlen hden => ?_⟩
 have hcl : lookB ((c, Ch.obj o) :: Bi) c = some (.obj o) := by rw [lookB_cons, if_pos rfl]
 obtain ⟨ρi, G, q1, q2, q3, q4⟩ := hin _ _ _ _ (hH c _ hcl)
 have hBi : ∀ {d ch}, lookB Bi d = some ch → d ≠ c ∧ d ∉ inn ∧ lookB ((c, Ch.obj o) :: Bi) d = some ch := fun {d ch} hd => by
   have e1 : d ≠ c := fun e => by rw [e, a9] at hd; cases hd
   exact ⟨e1, (noneIn_get a8 hd).1, by rw [lookB_cons, if_neg (Ne.symm e1)]; exact hd⟩
 have hcase : ∀ {d ch}, lookB (Bl ++ Bi) d = some ch → (lookB Bl d = some ch ∧ d ∈ keysB Bl) ∨ (d ∉ keysB Bl ∧ lookB Bi d = some ch) := fun {d ch} hd => by
   rw [lookB_app] at hd
   cases e : lookB Bl d with
   | some ch' =>
     rw [e] at hd
     exact .inl ⟨hd, keysB_mem.2 ⟨ch', e⟩⟩
   | none =>
     rw [e] at hd
     exact .inr ⟨fun hk => (by obtain ⟨ch', hk⟩ := keysB_mem.1 hk; rw [e] at hk; cases hk), hd⟩
 let ρs : Nat → Pl := fun d => if d ∈ inn then ρi d else ρ d
 let Fs : Nat → Nat → Prop := fun d => if d ∈ keysB Bl then G d else F d
 have hρs : ∀ d, d ∉ inn → ρs d = ρ d := fun d hd => if_neg hd
 have hρi : ∀ d, d ∈ c :: inn → ρs d = ρi d := fun d hd => by
   rcases List.mem_cons.1 hd with rfl | hd
   · rw [hρs _ a5, q1]
   · exact if_pos hd
 have hFr : ∀ y, (∃ d ch, lookB (Bl ++ Bi) d = some ch ∧ Fs d y) → ∃ d ch, lookB ((c, Ch.obj o) :: Bi) d = some ch ∧ F d y := by
   rintro y ⟨d, ch, hd, hy⟩
   rcases hcase hd with ⟨e1, e2⟩ | ⟨e1, e2⟩
   · have hy : G d y := by simpa only [Fs, if_pos e2] using hy
     exact ⟨c, _, hcl, (q4 y).2 ⟨d, ch, e1, hy⟩⟩
   · have hy : F d y := by simpa only [Fs, if_neg e1] using hy
     exact ⟨d, ch, (hBi e2).2.2, hy⟩
 refine (h ρs Fs I w vals hI ?_ ?_ ?_ hlen ?_).mono ?_
 · intro d ch hd
   rcases hcase hd with ⟨e1, e2⟩ | ⟨e1, e2⟩
   · have hk : d ∈ c :: inn := List.mem_cons.2 (a2' d e2)
     rw [hρi d hk]
     simp only [Fs, if_pos e2]
     exact Holds.stable (Ext.refl _ _) (fun _ _ => rfl) (Nat.le_refl _) ch (fun j hj => hρi j (Ch.among_has (amongB_get a3 e1) hj)) (q2 d ch e1)
   · rw [hρs d (hBi e2).2.1]
     simp only [Fs, if_neg e1]
     exact Holds.stable (Ext.refl _ _) (fun _ _ => rfl) (Nat.le_refl _) ch (fun j hj => hρs j (fun hji => by rw [(noneIn_get a8 e2).2 j hji] at hj; cases hj)) (hH d ch (hBi e2).2.2)
 · intro d ch hd x hx
   rcases hcase hd with ⟨e1, e2⟩ | ⟨e1, e2⟩
   · simp only [Fs, if_pos e2] at hx
     exact hF c _ hcl x ((q4 x).2 ⟨d, ch, e1, hx⟩)
   · simp only [Fs, if_neg e1] at hx
     exact hF d ch (hBi e2).2.2 x hx
 · intro d d' ch ch' x hd hd' hne hx hx'
   rcases hcase hd with ⟨e1, e2⟩ | ⟨e1, e2⟩
   · simp only [Fs, if_pos e2] at hx
     rcases hcase hd' with ⟨e1', e2'⟩ | ⟨e1', e2'⟩
     · simp only [Fs, if_pos e2'] at hx'
       exact q3 d d' ch ch' x e1 e1' hne hx hx'
     · simp only [Fs, if_neg e1'] at hx'
       exact hdj c d' _ ch' x hcl (hBi e2').2.2 (Ne.symm (hBi e2').1) ((q4 x).2 ⟨d, ch, e1, hx⟩) hx'
   · simp only [Fs, if_neg e1] at hx
     rcases hcase hd' with ⟨e1', e2'⟩ | ⟨e1', e2'⟩
     · simp only [Fs, if_pos e2'] at hx'
       exact hdj c d _ ch x hcl (hBi e2).2.2 (Ne.symm (hBi e2).1) ((q4 x).2 ⟨d', ch', e1', hx'⟩) hx
     · simp only [Fs, if_neg e1'] at hx'
       exact hdj d d' ch ch' x (hBi e2).2.2 (hBi e2').2.2 hne hx hx'
 · intro i v x hv hx
   have hva := List.all_eq_true.1 a7 v (List.mem_of_getElem? hv)
   exact DenV.mono (Ext.refl _ _) v x (fun j hj => hρs j (fun hji => by
     have := List.all_eq_true.1 hva j hji
     rw [hj] at this
     cases this)) (hden i v x hv hx)
 · rintro e w' ⟨g, x, ρ', F', rfl, hfr, hρ, I', he1, he2, hH', hO, hDj, hden'⟩
   have hg := h2 g
   simp only [closeOut, Bool.and_eq_true, Option.isNone_iff_eq_none] at hg
   obtain ⟨⟨⟨⟨b1, b2⟩, b3⟩, b4⟩, b5⟩ := hg
   have b1 := mem_of_contains b1
   have hhid : ∀ d, d ∉ hidOf inn nw nw' → d ∉ inn ∧ (d ∈ nw → d ∈ nw') := fun d hd => by
     refine ⟨fun hh => hd (List.mem_append.2 (.inl hh)), fun hh => ?_⟩
     rcases Decidable.em (d ∈ nw') with h | h
     · exact h
     · exact absurd (List.mem_append.2 (.inr (List.mem_filter.2 ⟨hh, by simpa using h⟩))) hd
   have hch : c ∉ hidOf inn nw nw' := fun hh => by
     rcases List.mem_append.1 hh with h | h
     · exact a5 h
     · exact a4 (List.mem_filter.1 h).1
   let ρ2 : Nat → Pl := fun d => if d ∈ nw' then ρ' d else ρ d
   have hρ2 : ∀ d, d ∉ hidOf inn nw nw' → ρ2 d = ρ' d := fun d hd => by
     obtain ⟨e1, e2⟩ := hhid d hd
     show (if d ∈ nw' then ρ' d else ρ d) = ρ' d
     split
     · rfl
     · rename_i hn
       rw [hρ d (fun hh => hn (e2 hh)), hρs d e1]
   have hBl : ∀ {d ch}, lookB (Bl' g) d = some ch → lookB (Bl' g ++ Bo g) d = some ch := fun {d ch} hd => by rw [lookB_app, hd]
   have hBo : ∀ {d ch}, lookB (Bo g) d = some ch → d ≠ c ∧ d ∉ hidOf inn nw nw' ∧ lookB (Bl' g) d = none ∧ lookB (Bl' g ++ Bo g) d = some ch := fun {d ch} hd => by
     have e1 : d ≠ c := fun e => by rw [e, b4] at hd; cases hd
     have e2 := (noneIn_get b3 hd).1
     have e3 : lookB (Bl' g) d = none := by
       cases e : lookB (Bl' g) d with
       | none => rfl
       | some ch' =>
         have := mem_of_contains (List.all_eq_true.1 b2 d (keysB_mem.2 ⟨ch', e⟩))
         rcases List.mem_cons.1 this with h | h
         · exact absurd h e1
         · exact absurd h e2
     exact ⟨e1, e2, e3, by rw [lookB_app, e3]; exact hd⟩
   refine ⟨g, x, ρ2, fun d => if d = c then (fun y => ∃ d' ch', lookB (Bl' g) d' = some ch' ∧ F' d' y) else F' d, rfl, hfr.mono fun y _ hy => hFr y hy, fun d hd => if_neg hd, I', he1, fun y hy => ⟨(he2 y hy).1, ?_⟩, ?_, ?_, ?_, ?_⟩
   · rcases (he2 y hy).2 with h | h | h
     · exact .inl h
     · exact .inr (.inl (hFr y h))
     · exact .inr (.inr h)
   · intro d ch hd
     rw [lookB_cons] at hd
     split at hd
     · rename_i e
       injection hd with hd
       subst hd e
       simp only [if_true]
       rw [hρ2 _ hch]
       exact hout g _ _ _ _ ⟨ρ', F', rfl, fun d ch hd => hH' d ch (hBl hd), fun d d' ch ch' b hd hd' hne => hDj d d' ch ch' b (hBl hd) (hBl hd') hne, fun b => Iff.rfl⟩
     · obtain ⟨e1, e2, e3, e4⟩ := hBo hd
       simp only [if_neg e1]
       rw [hρ2 d e2]
       exact Holds.stable (Ext.refl _ _) (fun _ _ => rfl) (Nat.le_refl _) ch (fun j hj => hρ2 j (fun hji => by rw [(noneIn_get b3 hd).2 j hji] at hj; cases hj)) (hH' d ch e4)
   · intro d ch hd y hy
     rw [lookB_cons] at hd
     split at hd
     · rename_i e
       subst e
       simp only [if_true] at hy
       obtain ⟨d', ch', h1, h2⟩ := hy
       obtain ⟨c1, c2, c3⟩ := hO d' ch' (hBl h1) y h2
       exact ⟨c1, c2, c3.imp (hFr y) id⟩
     · obtain ⟨e1, e2, e3, e4⟩ := hBo hd
       simp only [if_neg e1] at hy
       obtain ⟨c1, c2, c3⟩ := hO d ch e4 y hy
       exact ⟨c1, c2, c3.imp (hFr y) id⟩
   · intro d d' ch ch' y hd hd' hne hy hy'
     rw [lookB_cons] at hd hd'
     split at hd
     · rename_i e
       subst e
       rw [if_neg hne] at hd'
       obtain ⟨e1, e2, e3, e4⟩ := hBo hd'
       simp only [if_true] at hy
       simp only [if_neg e1] at hy'
       obtain ⟨d1, ch1, h1, h2⟩ := hy
       exact hDj d1 d' ch1 ch' y (hBl h1) e4 (fun e => by rw [e, e3] at h1; cases h1) h2 hy'
     · obtain ⟨e1, e2, e3, e4⟩ := hBo hd
       simp only [if_neg e1] at hy
       split at hd'
       · rename_i e
         subst e
         simp only [if_true] at hy'
         obtain ⟨d1, ch1, h1, h2⟩ := hy'
         exact hDj d d1 ch ch1 y e4 (hBl h1) (fun e => by rw [← e, e3] at h1; cases h1) hy h2
       · obtain ⟨e1', e2', e3', e4'⟩ := hBo hd'
         simp only [if_neg e1'] at hy'
         exact hDj d d' ch ch' y e4 e4' hne hy hy'
   · exact DenV.mono (Ext.refl _ _) (res g) x (fun j hj => hρ2 j (fun hji => by
       have := List.all_eq_true.1 b5 j hji
       rw [hj] at this
       cases this)) hden'
/-- Other numbers within. -/
theorem grpR.ofRn {f g : Nat → Nat} (hgf : ∀ c, g (f c) = c) (hfg : ∀ c, f (g c) = c) {c : Nat} {Bl : BL} {I F : Nat → Prop} {w : World} {p : Pl} (h : grpR c Bl I F w p) : grpR (f c) (rnB f Bl) I F w p := by
 obtain ⟨ρ, G, h1, h2, h3, h4⟩ := h
 have hl : ∀ {d ch}, lookB (rnB f Bl) d = some ch → ∃ ch0, lookB Bl (g d) = some ch0 ∧ ch = ch0.rn f := fun {d ch} hd => by
   rw [← hfg d, lookB_rnB hgf] at hd
   obtain ⟨ch0, e1, e2⟩ := Option.map_eq_some_iff.1 hd
   exact ⟨ch0, e1, e2.symm⟩
 refine ⟨fun d => ρ (g d), fun d => G (g d), by simp only [hgf]; exact h1, fun d ch hd => ?_, fun d d' ch ch' b hd hd' hne => ?_, fun b => ?_⟩
 · obtain ⟨ch0, e1, rfl⟩ := hl hd
   rw [Holds_rn]
   simp only [hgf]
   exact h2 _ _ e1
 · obtain ⟨ch0, e1, _⟩ := hl hd
   obtain ⟨ch1, e2, _⟩ := hl hd'
   exact h3 _ _ _ _ b e1 e2 (fun e => hne (by rw [← hfg d, ← hfg d', e]))
 · rw [h4]
   constructor
   · rintro ⟨d, ch, e1, e2⟩
     exact ⟨f d, ch.rn f, by rw [lookB_rnB hgf, e1]; rfl, by simp only [hgf]; exact e2⟩
   · rintro ⟨d, ch, e1, e2⟩
     obtain ⟨ch0, e3, _⟩ := hl e1
     exact ⟨g d, ch0, e3, e2⟩
/-- .. by pairs. -/
theorem grpR.ren (l : List (Nat × Nat)) {c : Nat} {Bl : BL} {I F : Nat → Prop} {w : World} {p : Pl} (h : grpR c Bl I F w p) : grpR (rn (mkRn l []) c) (rnB (rn (mkRn l [])) Bl) I F w p :=
 h.ofRn (g := rnI (mkRn l [])) (rnI_rn _) (rn_rnI _)
/-- The blocks of another order, or that more is said of. -/
theorem grpR.sub {c : Nat} {Bl Bl' : BL} {I F : Nat → Prop} {w : World} {p : Pl} (h : grpR c Bl I F w p) (h1 : ∀ d ch, lookB Bl d = some ch ↔ lookB Bl' d = some ch) : grpR c Bl' I F w p := by
 obtain ⟨ρ, G, e1, e2, e3, e4⟩ := h
 exact ⟨ρ, G, e1, fun d ch hd => e2 d ch ((h1 d ch).2 hd), fun d d' ch ch' b hd hd' => e3 d d' ch ch' b ((h1 d ch).2 hd) ((h1 d' ch').2 hd'), fun b => (e4 b).trans ⟨fun ⟨d, ch, a, b⟩ => ⟨d, ch, (h1 d ch).1 a, b⟩, fun ⟨d, ch, a, b⟩ => ⟨d, ch, (h1 d ch).2 a, b⟩⟩⟩
section
variable {ids : List Nat} {K : KL} {B : BL}
/-- A block's address, named. -/
theorem LeX.name (s c : Nat) {o : Ob} (hs : look K s = .c (.one (.ptr c 0))) (hc : lookB B c = some (.obj o)) : LeX ids K B (fun b : Nat => (s, .c (.one (.d (.adr (some b))))) :: K) (fun b => (c, .obj (o.at b)) :: B) := by
 rintro N C a w ⟨hn, hd, ρ, F, hM, hS⟩
 obtain ⟨hM', hE⟩ := hM.turn (w' := w) (ch := .obj (o.at (ρ c).blk)) hc (Fr.refl _ _) fun I hI => ⟨rfl, Holds.stable (ρ' := ρ) hI (fun _ _ => rfl) (Nat.le_refl _) (.obj o) (fun _ _ => rfl) (hM.holds c _ hc)⟩
 refine ⟨(ρ c).blk, hn, hd, ρ, F, hM', fun t => ?_⟩
 rw [look_cons]
 split
 · rename_i e
   subst e
   have := hS s
   rw [hs] at this
   exact this
 · exact hS.mono hE (fun _ _ _ => rfl) t
/-- An object, put into a pool. -/
theorem Le.put (q c : Nat) {o : Ob} {b : Nat} {L : List (Nat × Ob)} (hne : c ≠ q) (hq : lookB B q = some (.obj (.pool L))) (hc : lookB B c = some (.obj (o.at b))) : Le ids K B K ((q, .obj (.pool ((b, o) :: L))) :: dropB B c) := by
 rintro N C a w ⟨hn, hd, ρ, F, hM, hS⟩
 have hP : poolR _ _ L (F q) := hM.holds q _ hq
 have hO : (ρ c).blk = b ∧ o.R _ (F c) w (ρ c) := hM.holds c _ hc
 obtain ⟨rfl, hO⟩ := hO
 have hdj : ∀ x, F c x → ¬ F q x := fun x hx hx' => hM.disj c q _ _ x hc hq hne hx hx'
 obtain ⟨hM', hE⟩ := hM.step (B' := (q, .obj (.pool (((ρ c).blk, o) :: L))) :: dropB B c) (ρ' := ρ) (F' := upd F q (fun x => F c x ∨ F q x)) (w' := w) (fun d => d = c ∨ d = q) (fun _ => False) (Fr.refl _ _)
   (fun d ch hd hm => by
     rw [lookB_cons, if_neg (fun e => hm (.inr e.symm)), lookB_dropB, if_neg (fun e => hm (.inl e.symm))] at hd
     exact hd)
   (fun _ _ => rfl) (fun d hm => upd_other _ _ (fun e => hm (.inr e))) (fun _ _ h => h) (fun _ h => h.elim) (fun _ _ _ _ _ _ h => h)
   (fun d ch hd hm hE => by
     rw [lookB_cons] at hd
     split at hd
     · rename_i e
       subst e
       injection hd with hd
       subst hd
       rw [upd_same]
       exact poolR.add (hP.stable hE (Nat.le_refl _) (fun _ _ => rfl)) (o.stable _ _ _ _ _ _ hO hE (fun _ _ => rfl) (Nat.le_refl _)) hdj
     · rename_i e
       rcases hm with rfl | rfl
       · rw [lookB_dropB, if_pos rfl] at hd; cases hd
       · exact absurd rfl e)
   (fun d ch hd hm x hx => by
     rw [lookB_cons] at hd
     split at hd
     · rename_i e
       subst e
       rw [upd_same] at hx
       rcases hx with hx | hx
       · exact ⟨(hM.own c _ hc x hx).1, .inl ⟨c, _, hc, .inl rfl, hx⟩⟩
       · exact ⟨(hM.own q _ hq x hx).1, .inl ⟨q, _, hq, .inr rfl, hx⟩⟩
     · rename_i e
       rcases hm with rfl | rfl
       · rw [lookB_dropB, if_pos rfl] at hd; cases hd
       · exact absurd rfl e)
   (fun d d' ch ch' x hd hd' hm hm' hne' => by
     have key : ∀ d ch, lookB ((q, Ch.obj (.pool (((ρ c).blk, o) :: L))) :: dropB B c) d = some ch → (d = c ∨ d = q) → d = q := fun d ch hd hm => by
       rcases hm with rfl | rfl
       · rw [lookB_cons, if_neg (Ne.symm hne), lookB_dropB, if_pos rfl] at hd; cases hd
       · rfl
     exact absurd ((key d ch hd hm).trans (key d' ch' hd' hm').symm) hne')
 exact ⟨hn, hd, ρ, _, hM', hS.mono hE fun _ _ _ => rfl⟩
def dropBs : List Nat → BL → BL
 | [], B => B
 | c :: l, B => dropBs l (dropB B c)
theorem lookB_dropBs : ∀ (l : List Nat) (B : BL) (d : Nat), lookB (dropBs l B) d = if d ∈ l then none else lookB B d
 | [], B, d => by simp [dropBs]
 | c :: l, B, d => by
   rw [dropBs, lookB_dropBs l, lookB_dropB]
   by_cases h : d ∈ l
   · rw [if_pos h, if_pos (List.mem_cons_of_mem _ h)]
   · rw [if_neg h]
     by_cases e : c = d
     · subst e; rw [if_pos rfl, if_pos (List.mem_cons_self ..)]
     · rw [if_neg e, if_neg]
       intro hh
       rcases List.mem_cons.1 hh with rfl | hh
       · exact e rfl
       · exact h hh
/-- Blocks, taken as the object that they are. -/
theorem Le.close (c : Nat) (Bl : BL) {o : Ob} (hB : subB B Bl) (hc : (keysB Bl).contains c = true) (ho : ∀ I F w p, grpR c Bl I F w p → o.R I F w p) : Le ids K B K ((c, .obj o) :: dropBs (keysB Bl) B) := by
 rintro N C a w ⟨hn, hd, ρ, F, hM, hS⟩
 have hc := mem_of_contains hc
 have hl : ∀ {d ch}, lookB Bl d = some ch → lookB B d = some ch := fun {d ch} h => subB_get hB h
 have hdead : ∀ {d ch}, lookB ((c, Ch.obj o) :: dropBs (keysB Bl) B) d = some ch → d ∈ keysB Bl → d = c ∧ ch = .obj o := fun {d ch} hd hm => by
   rw [lookB_cons] at hd
   split at hd
   · rename_i e; injection hd with hd; exact ⟨e.symm, hd.symm⟩
   · rw [lookB_dropBs, if_pos hm] at hd; cases hd
 obtain ⟨hM', hE⟩ := hM.step (B' := (c, .obj o) :: dropBs (keysB Bl) B) (ρ' := ρ) (F' := fun d => if d ∈ keysB Bl then (fun x => ∃ d ch, lookB Bl d = some ch ∧ F d x) else F d) (w' := w) (fun d => d ∈ keysB Bl) (fun _ => False) (Fr.refl _ _)
   (fun d ch hd hm => by
     have hne : c ≠ d := fun e => hm (by rw [← e]; exact hc)
     rw [lookB_cons, if_neg hne, lookB_dropBs, if_neg hm] at hd
     exact hd)
   (fun _ _ => rfl) (fun d hm => if_neg hm) (fun _ _ h => h) (fun _ h => h.elim) (fun _ _ _ _ _ _ h => h)
   (fun d ch hd hm hE => by
     obtain ⟨rfl, rfl⟩ := hdead hd hm
     simp only [if_pos hm]
     exact ho _ _ _ _ ⟨ρ, F, rfl, fun d ch h => Holds.stable hE (fun _ _ => rfl) (Nat.le_refl _) ch (fun _ _ => rfl) (hM.holds d ch (hl h)), fun d d' ch ch' b h h' hne => hM.disj d d' ch ch' b (hl h) (hl h') hne, fun b => Iff.rfl⟩)
   (fun d ch hd hm x hx => by
     simp only [if_pos hm] at hx
     obtain ⟨d', ch', h1, h2⟩ := hx
     exact ⟨(hM.own d' ch' (hl h1) x h2).1, .inl ⟨d', ch', hl h1, keysB_mem.2 ⟨ch', h1⟩, h2⟩⟩)
   (fun d d' ch ch' x hd hd' hm hm' hne => absurd ((hdead hd hm).1.trans (hdead hd' hm').1.symm) hne)
 exact ⟨hn, hd, ρ, _, hM', hS.mono hE fun _ _ _ => rfl⟩
/-- A pool of none. -/
theorem Le.emp (q : Nat) (hf : freshB ids K B q = true) : Le ids K B K ((q, .obj (.pool [])) :: B) := by
 rintro N C a w ⟨hn, hd, ρ, F, hM, hS⟩
 have hfr := fresh_of hf
 obtain ⟨hM', hE⟩ := hM.make hf (Below.refl _ w) (ρ q) (fun _ => False) (fun _ h => h.elim) (ch := .obj (.pool [])) fun I _ _ => fun b h => h
 exact ⟨hn, hd, _, _, hM', hS.mono hE fun s d hd => upd_other _ _ (fun e => by subst e; rw [hfr.1 s] at hd; cases hd)⟩
end
end Go.Proofs.YtojaemgabaehdaaGreat
/-!
  Words that several chapters share.
-/
namespace Go.Proofs.YtojaemgabaehdaaGreat
set_option linter.unusedVariables false
set_option linter.unusedSimpArgs false
open Go.RowKit
@[reducible] def uI : U := .int .i64
@[reducible] def vNilP : SC := .one (.raw (.pointer none))
@[reducible] def vErr (n : Int) : SC := .one (.d (.int .i64 n))
@[reducible] def vU : SV := .tup []
@[reducible] def vAd (b : Nat) : SV := .c (.one (.d (.adr (some b))))
theorem lgAt {α : Type} {L : List α} {n : Nat} (h : n < L.length) : lget L n = some L[n] := List.getElem?_eq_getElem h
/-- A contract on blocks laid open, as one on the object that they are (nothing is made known). -/
theorem Fn.close {P : Program} {f : FuncId} {c : Nat} {args : List SV} {Bl Bi : BL} {nw nw' : List Nat} {res : SV} {Bl' Bo : BL} {o o' : Ob} (inn : List Nat)
   (h : Fn P f args (Bl ++ Bi) nw res (Bl' ++ Bo)) (hin : ∀ I F w p, o.R I F w p → grpR c Bl I F w p) (hout : ∀ I F w p, grpR c Bl' I F w p → o'.R I F w p)
   (h1 : closeIn c inn args Bl Bi nw nw' = true) (h2 : closeOut c (hidOf inn nw nw') res Bl' Bo = true) :
   Fn P f args ((c, .obj o) :: Bi) nw' res ((c, .obj o') :: Bo) :=
 (FnX.close (Bl := Bl) (Bl' := fun _ : Unit => Bl') (Bo := fun _ => Bo) (o := o) (o' := fun _ => o') inn h.x hin (fun _ => hout) h1 (fun _ => h2)).fn
/-- An object that is one of several, whichever. -/
theorem Fn.openEx {P : Program} {f : FuncId} {args : List SV} {c : Nat} {Bi : BL} {nw : List Nat} {res : SV} {Bo : BL} {o : Ob} {Y : Type} {oy : Y → Ob} (hc : callable P f = true) (ho : ∀ I F w p, o.R I F w p → ∃ y, (oy y).R I F w p)
   (h : ∀ y, Fn P f args ((c, .obj (oy y)) :: Bi) nw res Bo) : Fn P f args ((c, .obj o) :: Bi) nw res Bo := by
 refine ⟨hc, fun ρ F I w vals a1 a2 a3 a4 a5 a6 => ?_⟩
 have hl : lookB ((c, Ch.obj o) :: Bi) c = some (.obj o) := by rw [lookB_cons, if_pos rfl]
 obtain ⟨y, hy⟩ := ho _ _ _ _ (a2 c _ hl)
 have key : ∀ d ch, lookB ((c, Ch.obj (oy y)) :: Bi) d = some ch → (d = c ∧ ch = .obj (oy y)) ∨ lookB ((c, Ch.obj o) :: Bi) d = some ch := fun d ch hd => by
   rw [lookB_cons] at hd
   split at hd
   · rename_i e; injection hd with hd; exact .inl ⟨e.symm, hd.symm⟩
   · rename_i e; exact .inr (by rw [lookB_cons, if_neg e]; exact hd)
 have key2 : ∀ d ch, lookB ((c, Ch.obj (oy y)) :: Bi) d = some ch → ∃ ch0, lookB ((c, Ch.obj o) :: Bi) d = some ch0 := fun d ch hd => by
   rcases key d ch hd with ⟨e, _⟩ | h
   · rw [e]
     exact ⟨_, hl⟩
   · exact ⟨_, h⟩
 have key3 : ∀ d ch, lookB ((c, Ch.obj o) :: Bi) d = some ch → ∃ ch0, lookB ((c, Ch.obj (oy y)) :: Bi) d = some ch0 := fun d ch hd => by
   rw [lookB_cons] at hd ⊢
   split at hd
   · rename_i e; exact ⟨_, by rw [if_pos e]⟩
   · rename_i e; exact ⟨ch, by rw [if_neg e]; exact hd⟩
 have hF : ∀ b, (∃ d ch, lookB ((c, Ch.obj (oy y)) :: Bi) d = some ch ∧ F d b) ↔ ∃ d ch, lookB ((c, Ch.obj o) :: Bi) d = some ch ∧ F d b := fun b =>
   ⟨fun ⟨d, ch, h1, h2⟩ => let ⟨ch0, h⟩ := key2 d ch h1; ⟨d, ch0, h, h2⟩, fun ⟨d, ch, h1, h2⟩ => let ⟨ch0, h⟩ := key3 d ch h1; ⟨d, ch0, h, h2⟩⟩
 refine ((h y).2 ρ F I w vals a1 (fun d ch hd => ?_) (fun d ch hd b hb => ?_) (fun d d' ch ch' b h1 h2 => ?_) a5 a6).mono ?_
 · rcases key d ch hd with ⟨rfl, rfl⟩ | h
   · exact hy
   · exact a2 d ch h
 · obtain ⟨ch0, h⟩ := key2 d ch hd
   exact a3 d ch0 h b hb
 · obtain ⟨c0, g1⟩ := key2 d ch h1
   obtain ⟨c1, g2⟩ := key2 d' ch' h2
   exact a4 d d' c0 c1 b g1 g2
 · rintro e w' ⟨x, ρ', F', r1, r2, r3, I', r4, r5, r6, r7, r8, r9⟩
   refine ⟨x, ρ', F', r1, r2.mono fun b _ hb => (hF b).1 hb, r3, I', r4, fun b hb => ⟨(r5 b hb).1, (r5 b hb).2.imp id (Or.imp (hF b).1 id)⟩, r6, fun d ch hd b hb => ?_, r8, r9⟩
   obtain ⟨g1, g2, g3⟩ := r7 d ch hd b hb
   exact ⟨g1, g2, g3.imp (hF b).1 id⟩
end Go.Proofs.YtojaemgabaehdaaGreat
/-!
  octets: numbers written, and read (widths 1, 2, 4), without the document's.
-/
namespace Go.Proofs.YtojaemgabaehdaaGreat
set_option linter.unusedVariables false
set_option linter.unusedSimpArgs false
set_option maxRecDepth 10000
open Go.RowKit Go.Proofs
@[reducible] def uInt : U := .int .i64
theorem lget_at {α : Type} {L : List α} {k : Nat} {n : Int} (hn : n = (k : Nat)) (h : k < L.length) : lget L n.toNat = some L[k] := by
 subst hn
 exact List.getElem?_eq_getElem h
theorem take_step {α : Type} {l : List α} {k : Nat} (h : k < l.length) : l.take k ++ [l[k]] = l.take (k + 1) := by
 rw [List.take_add_one, List.getElem?_eq_getElem h]
 rfl
/-- A digit, to the base 256; a number of so many digits, the greatest first. -/
def dig (n k : Nat) : UInt8 := UInt8.ofNat (n / 256 ^ k % 256)
def encR (n : Nat) : Nat → List UInt8
 | 0 => []
 | k + 1 => dig n k :: encR n k
theorem encR_length (n : Nat) : ∀ k, (encR n k).length = k
 | 0 => rfl
 | k + 1 => by simp [encR, encR_length n k]
theorem encR_get (n : Nat) : ∀ (k i : Nat), i < k → (encR n k)[i]? = some (dig n (k - 1 - i))
 | 0, i, h => by omega
 | k + 1, 0, h => by simp [encR]
 | k + 1, i + 1, h => by
   simp only [encR, List.getElem?_cons_succ]
   rw [encR_get n k i (by omega)]
   congr 2
   omega
theorem byte_dig (m k : Nat) : UInt8.ofNat (((m : Nat) : Int) / ((2 ^ (8 * k) : Nat) : Int) % 256).toNat = dig m k := by
 unfold dig
 have h : (2 : Nat) ^ (8 * k) = 256 ^ k := by rw [Nat.pow_mul]
 rw [h]
 congr 1
abbrev W (w : Nat) : Prop := w = 1 ∨ w = 2 ∨ w = 4
theorem oright_spec (w : Nat) (hw : W w) : Fn Tryz.prog 228 [vI (w : Nat)] [] [] (vB true) [] := by
 refine Fn.of tblOK [] _ _ _ _ _ Tryz.func228 rfl rfl (by kernel_rfl) (by kernel_rfl) rfl (drawOK tblOK) rfl ?_
 refine ⟨fun h => ?_, fun h1 => ?_⟩
 · exact ⟨_, _, _, Le.refl _ _, rfl, rfl, trivial, rfl⟩
 refine ⟨fun h => ?_, fun h2 => ?_⟩
 · exact ⟨_, _, _, Le.refl _ _, rfl, rfl, trivial, rfl⟩
 refine ⟨fun h => ?_, fun h3 => ?_⟩
 · exact ⟨_, _, _, Le.refl _ _, rfl, rfl, trivial, rfl⟩
 have h1 : ¬ ((w : Nat) : Int) = 1 := of_decide_eq_false h1
 have h2 : ¬ ((w : Nat) : Int) = 2 := of_decide_eq_false h2
 have h3 : ¬ ((w : Nat) : Int) = 4 := of_decide_eq_false h3
 unfold W at hw
 omega
theorem ofits_spec (n w : Nat) (hw : W w) (hn : n < 256 ^ w) : Fn Tryz.prog 291 [vI (n : Nat), vI (w : Nat)] [] [] (vB true) [] := by
 have hp : (2 ^ (8 * ((w : Nat) : Int)).toNat : Nat) = 256 ^ w ∧ 256 ^ w ≤ 4294967296 := by
   rcases hw with rfl | rfl | rfl <;> decide
 refine Fn.of tblOK [] _ _ _ _ _ Tryz.func291 rfl rfl (by kernel_rfl) (by kernel_rfl) rfl (drawOK tblOK) rfl ?_
 refine ⟨fun h => ?_, fun h1 => ?_⟩
 · have h : ((w : Nat) : Int) = 8 := of_decide_eq_true h
   unfold W at hw
   omega
 refine ⟨fun h => ?_, fun h => absurd (show ¬ (0 : Int) ≤ ((n : Nat) : Int) from of_decide_eq_false h) (by omega)⟩
 have hw4 : w ≤ 4 := by unfold W at hw; omega
 refine ⟨by omega, ⟨by omega, by omega, by omega⟩, ?_, ?_⟩
 · rw [hp.1]; omega
 refine ⟨_, _, _, Le.refl _ _, rfl, ?_, trivial, rfl⟩
 refine decide_eq_true ?_
 show ((n : Nat) : Int) < 1 * ((2 ^ (8 * ((w : Nat) : Int)).toNat : Nat) : Int)
 rw [hp.1]
 omega
/-- Numbers, one behind the other. -/
def encNs (w : Nat) (l : List Nat) : List UInt8 := l.flatMap fun n => encR n w
theorem encNs_length (w : Nat) (l : List Nat) : (encNs w l).length = l.length * w := by
 induction l with
 | nil => simp [encNs]
 | cons n l ih =>
   simp only [encNs, List.flatMap_cons, List.length_append, List.length_cons, encR_length] at ih ⊢
   rw [ih, Nat.succ_mul]; omega
theorem encNs_step (w : Nat) {l : List Nat} {k : Nat} (h : k < l.length) : encNs w (l.take (k + 1)) = encNs w (l.take k) ++ encR l[k] w := by
 unfold encNs
 rw [← take_step h, List.flatMap_append]
 simp
def intsL (l : List Nat) : List Int := l.map Int.ofNat
@[reducible] def ints (l : List Nat) : List (El uInt) := intsL l
@[reducible] def puK (l : List Nat) (w r k : Nat) : KL := [(0, vOwn r), (1, vI (w : Nat)), (2, vL uInt (ints l)), (17, vL uInt (ints l)), (18, vI (l.length : Nat)), (19, vI (k : Nat))]
@[reducible] def puK2 (l : List Nat) (w r k : Nat) : KL := [(0, vOwn r), (1, vI (w : Nat)), (29, vL uInt (ints l)), (30, vI (l.length : Nat)), (31, vI (k : Nat))]
@[reducible] def puK3 (l : List Nat) (w r k n i : Nat) : KL := [(0, vOwn r), (1, vI (w : Nat)), (11, vI (n : Nat)), (29, vL uInt (ints l)), (30, vI (l.length : Nat)), (31, vI (k : Nat)), (35, vI (w : Nat)), (36, vI (i : Nat))]
@[reducible] def byR (r : Nat) (l : List UInt8) : BL := [(r, .row 5 .u8 l)]
theorem ints_get {l : List Nat} {k : Nat} (h : k < l.length) : lget (ints l) k = some ((l[k] : Nat) : Int) := by
 show (intsL l)[k]? = some _
 unfold intsL
 rw [List.getElem?_map, List.getElem?_eq_getElem h]
 rfl
theorem app_one (xs ys : List UInt8) (n i : Nat) (w : Nat) (hi : i < w) : (xs ++ (encR n w).take i) ++ [dig n (w - 1 - i)] = xs ++ (encR n w).take (i + 1) := by
 have hl := encR_length n w
 rw [List.append_assoc, ← take_step (by omega : i < (encR n w).length)]
 congr 2
 have := encR_get n w i hi
 rw [List.getElem?_eq_getElem (by omega)] at this
 injection this with this
 rw [this]
set_option maxHeartbeats 2000000 in
theorem put_spec (xs : List UInt8) (w : Nat) (l : List Nat) (hw : W w) (hf : ∀ n, n ∈ l → n < 256 ^ w) (hl : l.length ≤ 1000) (hx : xs.length ≤ 1000000000) :
   Fn Tryz.prog 222 [vOwn 1001, vI (w : Nat), vL uInt (ints l)] (byR 1001 xs) [1002] (.tup [.one (.own 1002), .one (.d (.bool true))]) (byR 1002 (xs ++ encNs w l)) := by
 have hw4 : w ≤ 4 := by unfold W at hw; omega
 have hil : List.length (ints l) = l.length := show (intsL l).length = _ by unfold intsL; exact List.length_map _
 refine Fn.of tblOK [] _ _ _ _ _ Tryz.func222 rfl rfl (by kernel_rfl) (by kernel_rfl) rfl (drawOK tblOK) rfl ?_
 refine ⟨_, _, _, _, oright_spec w hw, trivial, rfl, ?_⟩
 refine ⟨fun h => absurd h (by decide), fun _ => ?_⟩
 show TrQ _ _ _ _ _ _ _
 refine TrQ.loop tblOK (drawOK tblOK) [] (by kernel_rfl) (X := Nat) (puK l w 2001) (fun _ => byR 2001 xs) (fun k => k ≤ l.length) (fun k => l.length - k) 0 (Nat.zero_le _) ?_ ?_
 · exact Le.trans (Le.ren 1001 2001 rfl) (Le.sub ⟨rfl, rfl, rfl, rfl, congrArg Int.ofNat hil, rfl, trivial⟩ ⟨rfl, trivial⟩)
 intro k hk
 refine ⟨fun h => ?_, fun h => ?_⟩
 · have hk1 : k < l.length := by simpa using h
   refine ⟨by omega, ((l[k] : Nat) : Int), ints_get hk1, ?_⟩
   refine ⟨_, _, _, _, ofits_spec l[k] w hw (hf _ (List.getElem_mem hk1)), trivial, rfl, ?_⟩
   refine ⟨fun h => absurd h (by decide), fun _ => ?_⟩
   refine ⟨by omega, k + 1, hk1, by omega, ?_⟩
   exact Le.sub ⟨rfl, rfl, rfl, rfl, rfl, rfl, trivial⟩ ⟨rfl, trivial⟩
 clear h hk
 show TrQ _ _ _ _ _ _ _
 refine TrQ.loop tblOK (drawOK tblOK) [] (by kernel_rfl) (X := Nat) (puK2 l w 2001) (fun k => byR 2001 (xs ++ encNs w (l.take k))) (fun k => k ≤ l.length) (fun k => l.length - k) 0 (Nat.zero_le _) ?_ ?_
 · exact Le.sub ⟨rfl, rfl, rfl, congrArg Int.ofNat hil, rfl, trivial⟩ ⟨congrArg (fun l => some (Ch.row _ .u8 l)) (List.append_nil xs).symm, trivial⟩
 intro k hk
 refine ⟨fun h => ?_, fun h => ?_⟩
 · have hk1 : k < l.length := by simpa using h
   have hs := encNs_step w hk1
   have hn := hf _ (List.getElem_mem hk1)
   have hlen := encNs_length w (l.take k)
   have hlen2 : (l.take k).length * w ≤ 1000 * 4 := Nat.mul_le_mul (by rw [List.length_take]; omega) hw4
   refine ⟨by omega, ((l[k] : Nat) : Int), ints_get hk1, ?_⟩
   generalize l[k] = n at *
   generalize encNs w (l.take k) = ys at *
   have hn32 : n < 4294967296 := Nat.lt_of_lt_of_le hn (by rcases hw with rfl | rfl | rfl <;> decide)
   show TrQ _ _ _ _ _ _ _
   refine TrQ.loop tblOK (drawOK tblOK) [] (by kernel_rfl) (X := Nat) (puK3 l w 2001 k n) (fun i => byR 2001 ((xs ++ ys) ++ (encR n w).take i)) (fun i => i ≤ w) (fun i => w - i) 0 (Nat.zero_le _) ?_ ?_
   · exact Le.sub ⟨rfl, rfl, rfl, rfl, rfl, rfl, rfl, rfl, trivial⟩ ⟨congrArg (fun l => some (Ch.row _ .u8 l)) (List.append_nil (xs ++ ys)).symm, trivial⟩
   intro i hi
   refine ⟨fun h => ?_, fun h => ?_⟩
   · have hi1 : i < w := by
       have h : (i : Int) < (w : Int) := of_decide_eq_true h
       omega
     have e1 : (8 * ((w : Int) - 1 - (i : Int))).toNat = 8 * (w - 1 - i) := by omega
     have m1 : -9223372036854775808 ≤ (w : Int) - 1 ∧ (w : Int) - 1 ≤ 9223372036854775807 := by omega
     have m2 : -9223372036854775808 ≤ (w : Int) - 1 - (i : Int) ∧ (w : Int) - 1 - (i : Int) ≤ 9223372036854775807 := by omega
     have m3 : -9223372036854775808 ≤ 8 * ((w : Int) - 1 - (i : Int)) ∧ 8 * ((w : Int) - 1 - (i : Int)) ≤ 9223372036854775807 := by omega
     have m4 : 0 ≤ (n : Int) ∧ 0 ≤ 8 * ((w : Int) - 1 - (i : Int)) ∧ 8 * ((w : Int) - 1 - (i : Int)) ≤ 64 := by omega
     refine ⟨m1, m2, m3, m4, ?_⟩
     refine ⟨⟨Int.emod_nonneg _ (by decide), Int.emod_lt_of_pos _ (by decide)⟩, ?_, rfl, ?_⟩
     · show ((xs ++ ys) ++ (encR n w).take i).length + 1 ≤ 4294967296
       rw [List.length_append, List.length_append, List.length_take]; omega
     refine ⟨by omega, i + 1, hi1, by omega, ?_⟩
     refine Le.trans (Le.sub (K' := puK3 l w 49 k n (i + 1)) (B' := byR 49 ((xs ++ ys) ++ (encR n w).take (i + 1))) ⟨rfl, rfl, rfl, rfl, rfl, rfl, rfl, rfl, trivial⟩ ⟨?_, trivial⟩) (Le.ren 49 2001 rfl)
     refine congrArg (fun l => some (Ch.row _ .u8 l)) ?_
     rw [← app_one (xs ++ ys) [] n i w hi1, ← byte_dig, ← e1]
     rfl
   · have hi1 : i = w := by
       have h : ¬ (i : Int) < (w : Int) := of_decide_eq_false h
       omega
     subst hi1
     refine ⟨by omega, k + 1, hk1, by omega, ?_⟩
     refine Le.sub ⟨rfl, rfl, rfl, rfl, rfl, trivial⟩ ⟨?_, trivial⟩
     rw [hs, List.take_of_length_le (by rw [encR_length]; omega), List.append_assoc]
     rfl
 have hk1 : k = l.length := by have : ¬ k < l.length := by simpa using h
                               omega
 subst hk1
 rw [List.take_length]
 exact ⟨_, _, _, Le.ren 2001 1002 rfl, rfl, ⟨rfl, rfl, trivial⟩, ⟨rfl, trivial⟩, rfl⟩
def encT (s : List UInt8) (w : Nat) : List UInt8 := encR s.length w ++ s
theorem encT_length (s : List UInt8) (w : Nat) : (encT s w).length = w + s.length := by unfold encT; rw [List.length_append, encR_length]
abbrev St : Type := List UInt8 × Int
def tkX (n : Nat) (st : St) : List UInt8 := if st.2 ≠ 0 ∨ st.1.length < n then [] else st.1.take n
def tkS (n : Nat) (st : St) : St := if st.2 ≠ 0 then st else if st.1.length < n then (st.1, 10) else (st.1.drop n, 0)
def decN (l : List UInt8) : Nat := l.foldl (fun a c => a * 256 + c.toNat) 0
theorem decN_snoc (l : List UInt8) (c : UInt8) : decN (l ++ [c]) = decN l * 256 + c.toNat := by simp [decN, List.foldl_append]
theorem decN_lt (l : List UInt8) : decN l < 256 ^ l.length := by
 have : ∀ (l : List UInt8), decN l.reverse < 256 ^ l.length := fun l => by
   induction l with
   | nil => simp [decN]
   | cons c l ih =>
     rw [List.reverse_cons, decN_snoc, List.length_cons, Nat.pow_succ]
     have := c.toNat_lt
     omega
 have h := this l.reverse
 simpa using h
theorem tkX_length (n : Nat) (st : St) : (tkX n st).length ≤ n := by
 unfold tkX
 split
 · simp
 · rw [List.length_take]; omega
def rdN (w : Nat) (st : St) : St × Nat := (tkS w st, decN (tkX w st))
def rdT (w : Nat) (st : St) : St × List UInt8 := (tkS (rdN w st).2 (rdN w st).1, tkX (rdN w st).2 (rdN w st).1)
@[reducible] def rrB (st : St) : BL := [(1001, .cells [.d (.lst .u8 st.1), .d (.int .i64 st.2)])]
theorem newReader_spec (b : List UInt8) (hb : b.length ≤ 4294967296) : Fn Tryz.prog 142 [vL .u8 b] [] [1001] (vP 1001) (rrB (b, 0)) := by
 refine Fn.of tblOK [] _ _ _ _ _ Tryz.func142 rfl rfl (by kernel_rfl) (by kernel_rfl) rfl (drawOK tblOK) rfl ?_
 refine ⟨rfl, ?_⟩
 refine ⟨?_, rfl, ?_⟩
 · show 0 + b.length ≤ 4294967296
   omega
 refine ⟨rfl, ?_⟩
 exact ⟨_, _, _, Le.trans (Le.frz 5 rfl) (Le.ren 7 1001 rfl), rfl, rfl, ⟨rfl, trivial⟩, rfl⟩
theorem keep_spec (s : List UInt8) (e k : Int) : Fn Tryz.prog 294 [vI k, vP 1002] [(1001, .cells [.d (.lst .u8 s), .d (.int .i64 e)]), (1002, .cells [.ptr 1001 0])] [] (vL .u8 []) [(1001, .cells [.d (.lst .u8 s), .d (.int .i64 (if e = 0 then k else e))]), (1002, .cells [.ptr 1001 0])] := by
 refine Fn.of tblOK [] _ _ _ _ _ Tryz.func294 rfl rfl (by kernel_rfl) (by kernel_rfl) rfl (drawOK tblOK) rfl ?_
 refine ⟨fun h => ?_, fun h => ?_⟩
 · rw [if_pos (show e = 0 from of_decide_eq_true h)]
   exact ⟨_, _, _, Le.refl _ _, rfl, rfl, ⟨rfl, rfl, trivial⟩, rfl⟩
 · rw [if_neg (show ¬ e = 0 from of_decide_eq_false h)]
   exact ⟨_, _, _, Le.refl _ _, rfl, rfl, ⟨rfl, rfl, trivial⟩, rfl⟩
theorem take_spec (st : St) (n : Nat) : Fn Tryz.prog 227 [vP 1001, vI (n : Nat), vB false] (rrB st) [] (vL .u8 (tkX n st)) (rrB (tkS n st)) := by
 obtain ⟨s, e⟩ := st
 refine Fn.of tblOK [] _ _ _ _ _ Tryz.func227 rfl rfl (by kernel_rfl) (by kernel_rfl) rfl (drawOK tblOK) rfl ?_
 refine ⟨rfl, ?_⟩
 refine ⟨fun h => ?_, fun h1 => ?_⟩
 · have h : (!decide (e = 0)) = true := h
   have he : ¬ e = 0 := by simpa using h
   have hx : tkX n (s, e) = [] := by unfold tkX; rw [if_pos (.inl he)]
   have hs : tkS n (s, e) = (s, e) := by unfold tkS; rw [if_pos he]
   rw [hx, hs]
   exact ⟨_, _, _, Le.refl _ _, rfl, rfl, ⟨rfl, trivial⟩, rfl⟩
 have h1 : (!decide (e = 0)) = false := h1
 have he : e = 0 := by simpa using h1
 subst he
 refine ⟨fun h => absurd h (by decide), fun _ => ?_⟩
 refine ⟨fun h => ?_, fun h => ?_⟩
 · have h : (s.length : Int) < (n : Int) := of_decide_eq_true h
   have hx : tkX n (s, 0) = [] := by unfold tkX; rw [if_pos (.inr (by show s.length < n; omega))]
   have hs : tkS n (s, 0) = (s, 10) := by unfold tkS; rw [if_neg (by simp), if_pos (by show s.length < n; omega)]
   rw [hx, hs]
   refine ⟨_, _, _, _, Fn.ren [(1002, 3)] (keep_spec s 0 10), ⟨rfl, rfl, trivial⟩, rfl, ?_⟩
   exact ⟨_, _, _, Le.refl _ _, rfl, rfl, ⟨rfl, trivial⟩, rfl⟩
 · have h : ¬ (s.length : Int) < (n : Int) := of_decide_eq_false h
   have hx : tkX n (s, 0) = s.take n := by
     unfold tkX
     rw [if_neg (by simp; omega)]
   have hs : tkS n (s, 0) = (s.drop n, 0) := by unfold tkS; rw [if_neg (by simp), if_neg (by show ¬ s.length < n; omega)]
   rw [hx, hs]
   have m1 : 0 ≤ (n : Int) ∧ (n : Int) ≤ (s.length : Int) := by omega
   refine ⟨m1, m1, rfl, ?_⟩
   refine ⟨_, _, _, Le.refl _ _, rfl, rfl, ⟨?_, trivial⟩, rfl⟩
   refine congrArg (fun l : List UInt8 => some (Ch.cells [S1.d (D.lst U.u8 l), S1.d (D.int IntKind.i64 0)])) ?_
   show (List.take s.length s).drop ((n : Int)).toNat = s.drop n
   rw [List.take_length]
   rfl
theorem or_add (a : Nat) (c : UInt8) : (a * 256) ||| c.toNat = a * 256 + c.toNat := by
 have h : c.toNat < 2 ^ 8 := c.toNat_lt
 have := Nat.shiftLeft_add_eq_or_of_lt h a
 rw [Nat.shiftLeft_eq] at this
 exact this.symm
theorem num_spec (st : St) (w : Nat) (hw : W w) : Fn Tryz.prog 144 [vP 1001, vI (w : Nat)] (rrB st) [] (vI ((rdN w st).2 : Nat)) (rrB (rdN w st).1) := by
 have hw4 : w ≤ 4 := by unfold W at hw; omega
 have hl := tkX_length w st
 have ht := take_spec st w
 show Fn _ _ _ _ _ (vI ((decN (tkX w st) : Nat) : Int)) (rrB (tkS w st))
 generalize tkX w st = x at *
 generalize tkS w st = st' at *
 have hbx : decN x < 4294967296 := Nat.lt_of_lt_of_le (decN_lt x) (Nat.le_trans (Nat.pow_le_pow_right (by decide) (show x.length ≤ 4 by omega)) (by decide))
 refine Fn.of tblOK [] _ _ _ _ _ Tryz.func144 rfl rfl (by kernel_rfl) (by kernel_rfl) rfl (drawOK tblOK) rfl ?_
 refine ⟨_, _, _, _, oright_spec w hw, trivial, rfl, ?_⟩
 refine ⟨_, _, _, _, ht, ⟨rfl, trivial⟩, rfl, ?_⟩
 refine ⟨fun h => absurd (show (x.length : Int) = 8 from of_decide_eq_true h) (by omega), fun _ => ?_⟩
 show TrQ _ _ _ _ _ _ _
 refine TrQ.loop tblOK (drawOK tblOK) [] (by kernel_rfl) (X := Nat) (fun i => [(5, vI ((decN (x.take i) : Nat) : Int)), (27, vL .u8 x), (28, vI (x.length : Nat)), (29, vI (i : Nat))]) (fun _ => rrB st') (fun i => i ≤ x.length) (fun i => x.length - i) 0 (Nat.zero_le _) ?_ ?_
 · exact Le.sub ⟨rfl, rfl, rfl, rfl, trivial⟩ ⟨rfl, trivial⟩
 intro i hi
 refine ⟨fun h => ?_, fun h => ?_⟩
 · have hi1 : i < x.length := by
     have h : (i : Int) < (x.length : Int) := of_decide_eq_true h
     omega
   have hs : decN (x.take (i + 1)) = decN (x.take i) * 256 + (x[i]).toNat := by rw [← take_step hi1, decN_snoc]
   have hb2 := decN_lt (x.take i)
   have hb3 : 256 ^ (x.take i).length ≤ 256 ^ 3 := Nat.pow_le_pow_right (by decide) (by rw [List.length_take]; omega)
   have hc := (x[i]).toNat_lt
   refine ⟨by omega, x[i], lget_at rfl hi1, ?_⟩
   generalize x[i] = c at *
   generalize decN (x.take i) = a at *
   have hor := or_add a c
   have e1 : ((a : Int) * ((2 ^ (8 : Int).toNat : Nat) : Int)).toNat = a * 256 := by
     show ((a : Int) * 256).toNat = _
     omega
   have m1 : 0 ≤ (a : Int) ∧ (0 : Int) ≤ 8 ∧ (8 : Int) ≤ 64 := by omega
   have m2 : -9223372036854775808 ≤ (a : Int) * ((2 ^ (8 : Int).toNat : Nat) : Int) ∧ (a : Int) * ((2 ^ (8 : Int).toNat : Nat) : Int) ≤ 9223372036854775807 := by
     show -9223372036854775808 ≤ (a : Int) * 256 ∧ (a : Int) * 256 ≤ 9223372036854775807
     omega
   have m3 : -9223372036854775808 ≤ (c.toNat : Int) ∧ (c.toNat : Int) ≤ 9223372036854775807 := by omega
   have m4 : 0 ≤ (a : Int) * ((2 ^ (8 : Int).toNat : Nat) : Int) ∧ (a : Int) * ((2 ^ (8 : Int).toNat : Nat) : Int) ≤ 9223372036854775807 ∧ 0 ≤ (c.toNat : Int) ∧ (c.toNat : Int) ≤ 9223372036854775807 := by
     show 0 ≤ (a : Int) * 256 ∧ (a : Int) * 256 ≤ 9223372036854775807 ∧ _
     omega
   refine ⟨m1, m2, m3, m4, ?_⟩
   refine ⟨by omega, i + 1, hi1, by omega, ?_⟩
   refine Le.sub ⟨?_, rfl, rfl, rfl, trivial⟩ ⟨rfl, trivial⟩
   show (((((a : Int) * ((2 ^ (8 : Int).toNat : Nat) : Int)).toNat ||| ((c.toNat : Int)).toNat : Nat)) : Int) = ((decN (x.take (i + 1)) : Nat) : Int)
   rw [hs, e1, Int.toNat_natCast, hor]
 · have hi1 : i = x.length := by
     have h : ¬ (i : Int) < (x.length : Int) := of_decide_eq_false h
     omega
   subst hi1
   exact ⟨_, _, _, Le.refl _ _, rfl, (show ((decN (x.take x.length) : Nat) : Int) = _ by rw [List.take_length]), ⟨rfl, trivial⟩, rfl⟩
theorem text_spec (st : St) (w : Nat) (hw : W w) : Fn Tryz.prog 145 [vP 1001, vI (w : Nat)] (rrB st) [] (vS (rdT w st).2) (rrB (rdT w st).1) := by
 have h1 := num_spec st w hw
 have h2 := take_spec (rdN w st).1 (rdN w st).2
 show Fn _ _ _ _ _ (vS (tkX (rdN w st).2 (rdN w st).1)) (rrB (tkS (rdN w st).2 (rdN w st).1))
 generalize (rdN w st).2 = n at *
 generalize (rdN w st).1 = st1 at *
 generalize tkX n st1 = x at *
 generalize tkS n st1 = st2 at *
 refine Fn.of tblOK [] _ _ _ _ _ Tryz.func145 rfl rfl (by kernel_rfl) (by kernel_rfl) rfl (drawOK tblOK) rfl ?_
 refine ⟨_, _, _, _, h1, ⟨rfl, trivial⟩, rfl, ?_⟩
 refine ⟨_, _, _, _, Fn.arg h2 ⟨rfl, rfl, rfl, trivial⟩, ⟨rfl, trivial⟩, rfl, ?_⟩
 exact ⟨_, _, _, Le.refl _ _, rfl, rfl, ⟨rfl, trivial⟩, rfl⟩
theorem err_spec (st : St) : Fn Tryz.prog 146 [vP 1001] (rrB st) [] (vI st.2) (rrB st) := by
 refine Fn.of tblOK [] _ _ _ _ _ Tryz.func146 rfl rfl (by kernel_rfl) (by kernel_rfl) rfl (drawOK tblOK) rfl ?_
 exact ⟨_, _, _, Le.refl _ _, rfl, rfl, ⟨rfl, trivial⟩, rfl⟩
def endE (st : St) : Int := if st.2 = 0 ∧ 0 < st.1.length then 11 else st.2
theorem end_spec (st : St) : Fn Tryz.prog 172 [vP 1001] (rrB st) [] (vI (endE st)) (rrB st) := by
 obtain ⟨s, e⟩ := st
 refine Fn.of tblOK [] _ _ _ _ _ Tryz.func172 rfl rfl (by kernel_rfl) (by kernel_rfl) rfl (drawOK tblOK) rfl ?_
 refine ⟨fun h => ?_, fun h => ?_⟩
 · have he : e = 0 := of_decide_eq_true h
   refine ⟨fun h => ?_, fun h => ?_⟩
   · have h : (0 : Int) < (s.length : Int) := of_decide_eq_true h
     have : endE (s, e) = 11 := by unfold endE; rw [if_pos ⟨he, by show 0 < s.length; omega⟩]
     rw [this]
     exact ⟨_, _, _, Le.refl _ _, rfl, rfl, ⟨rfl, trivial⟩, rfl⟩
   · have h : ¬ (0 : Int) < (s.length : Int) := of_decide_eq_false h
     have : endE (s, e) = e := by unfold endE; rw [if_neg (fun hh => by have h2 : 0 < s.length := hh.2; omega)]
     rw [this]
     exact ⟨_, _, _, Le.refl _ _, rfl, rfl, ⟨rfl, trivial⟩, rfl⟩
 · have he : ¬ e = 0 := of_decide_eq_false h
   have : endE (s, e) = e := by unfold endE; rw [if_neg (fun hh => he hh.1)]
   rw [this]
   exact ⟨_, _, _, Le.refl _ _, rfl, rfl, ⟨rfl, trivial⟩, rfl⟩
theorem encR_snoc (n : Nat) : ∀ k, encR n (k + 1) = encR (n / 256) k ++ [dig n 0]
 | 0 => rfl
 | k + 1 => by
   show dig n (k + 1) :: encR n (k + 1) = dig (n / 256) k :: encR (n / 256) k ++ [dig n 0]
   rw [encR_snoc n k, List.cons_append]
   congr 1
   unfold dig
   rw [Nat.div_div_eq_div_mul, Nat.pow_succ, Nat.mul_comm 256]
theorem dig_zero (a : Nat) (c : UInt8) : dig (a * 256 + c.toNat) 0 = c := by
 have := c.toNat_lt
 unfold dig
 rw [Nat.pow_zero, Nat.div_one, show (a * 256 + c.toNat) % 256 = c.toNat by omega]
 simp
theorem encR_decN (l : List UInt8) : encR (decN l) l.length = l := by
 have : ∀ (l : List UInt8), encR (decN l.reverse) l.length = l.reverse := fun l => by
   induction l with
   | nil => rfl
   | cons c l ih =>
     have hc := c.toNat_lt
     rw [List.reverse_cons, decN_snoc, List.length_cons, encR_snoc, dig_zero, show (decN l.reverse * 256 + c.toNat) / 256 = decN l.reverse by omega, ih]
 have h := this l.reverse
 simpa using h
theorem decN_encR (n : Nat) : ∀ k, n < 256 ^ k → decN (encR n k) = n := by
 intro k
 induction k generalizing n with
 | zero => intro h; simp at h; subst h; rfl
 | succ k ih =>
   intro h
   rw [encR_snoc, decN_snoc, ih (n / 256) (by rw [Nat.pow_succ] at h; omega)]
   unfold dig
   rw [Nat.pow_zero, Nat.div_one, UInt8.toNat_ofNat']
   omega
/-! ### back -/
theorem tk_back {n : Nat} {st : St} (h : (tkS n st).2 = 0) : st.2 = 0 ∧ st.1 = tkX n st ++ (tkS n st).1 ∧ (tkX n st).length = n := by
 by_cases h1 : st.2 = 0
 · by_cases h2 : st.1.length < n
   · unfold tkS at h
     rw [if_neg (by simp [h1]), if_pos h2] at h
     simp at h
   · have hx : tkX n st = st.1.take n := by unfold tkX; exact if_neg (by simp only [h1, ne_eq, not_true_eq_false, false_or]; exact h2)
     have hs : tkS n st = (st.1.drop n, 0) := by unfold tkS; rw [if_neg (by simp [h1]), if_neg h2]
     rw [hx, hs]
     exact ⟨h1, (List.take_append_drop n st.1).symm, by rw [List.length_take]; omega⟩
 · unfold tkS at h
   rw [if_pos h1] at h
   exact absurd h h1
theorem rdN_back {w : Nat} {st : St} (h : (rdN w st).1.2 = 0) : st.2 = 0 ∧ st.1 = encR (rdN w st).2 w ++ (rdN w st).1.1 := by
 obtain ⟨h1, h2, h3⟩ := tk_back h
 refine ⟨h1, ?_⟩
 have := encR_decN (tkX w st)
 rw [h3] at this
 show st.1 = encR (decN (tkX w st)) w ++ (tkS w st).1
 rw [this]
 exact h2
theorem rdT_back {w : Nat} {st : St} (h : (rdT w st).1.2 = 0) : st.2 = 0 ∧ st.1 = encT (rdT w st).2 w ++ (rdT w st).1.1 := by
 obtain ⟨h1, h2, h3⟩ := tk_back h
 obtain ⟨h4, h5⟩ := rdN_back h1
 refine ⟨h4, ?_⟩
 show st.1 = (encR (tkX (rdN w st).2 (rdN w st).1).length w ++ tkX (rdN w st).2 (rdN w st).1) ++ (tkS (rdN w st).2 (rdN w st).1).1
 rw [h3, List.append_assoc, ← h2]
 exact h5
/-! ### forth -/
theorem tk_forth (x t : List UInt8) : tkS x.length (x ++ t, 0) = (t, 0) ∧ tkX x.length (x ++ t, 0) = x := by
 unfold tkS tkX
 rw [if_neg (by simp), if_neg (by simp), if_neg (by simp)]
 exact ⟨by simp, by simp⟩
theorem rdN_forth {n w : Nat} (h : n < 256 ^ w) (t : List UInt8) : rdN w (encR n w ++ t, 0) = ((t, 0), n) := by
 have := tk_forth (encR n w) t
 rw [encR_length] at this
 unfold rdN
 rw [this.1, this.2, decN_encR n w h]
theorem rdT_forth {w : Nat} {x : List UInt8} (h : x.length < 256 ^ w) (t : List UInt8) : rdT w (encT x w ++ t, 0) = ((t, 0), x) := by
 have h1 : rdN w (encT x w ++ t, 0) = ((x ++ t, 0), x.length) := by
   unfold encT
   rw [List.append_assoc]
   exact rdN_forth h _
 have := tk_forth x t
 unfold rdT
 rw [h1]
 simp only
 rw [this.1, this.2]
/-! Export, plain: requests and replies as bytes. -/
abbrev Rq := Int × Int × Int × Int × Int
@[reducible] def rqK (r : Rq) : Int := r.1
@[reducible] def rqC (r : Rq) : Int := r.2.1
@[reducible] def rqH (r : Rq) : Int := r.2.2.1
@[reducible] def rqA (r : Rq) : Int := r.2.2.2.1
@[reducible] def rqL (r : Rq) : Int := r.2.2.2.2
def fit (w : Nat) (n : Int) : Bool := decide (0 ≤ n) && decide (n < ((256 ^ w : Nat) : Int))
theorem fit_iff {w : Nat} {n : Int} : fit w n = true ↔ 0 ≤ n ∧ n.toNat < 256 ^ w := by
 unfold fit
 rw [Bool.and_eq_true, decide_eq_true_iff, decide_eq_true_iff]
 generalize 256 ^ w = p
 omega
def asks : Nat := 1886286962
def tells : Nat := 1886286945
def kindOK (k : Int) : Bool := decide (1 ≤ k) && decide (k ≤ 4)
def rqFit (r : Rq) : Bool := fit 1 (rqK r) && (fit 1 (rqC r) && (fit 2 (rqH r) && (fit 4 (rqA r) && fit 4 (rqL r))))
def askB (r : Rq) : List UInt8 := encR asks 4 ++ (encR (rqK r).toNat 1 ++ (encR (rqC r).toNat 1 ++ (encR (rqH r).toNat 2 ++ (encR (rqA r).toNat 4 ++ encR (rqL r).toNat 4))))
def q1 (s : List UInt8) := rdN 4 (s, 0)
def q2 (s : List UInt8) := rdN 1 (q1 s).1
def q3 (s : List UInt8) := rdN 1 (q2 s).1
def q4 (s : List UInt8) := rdN 2 (q3 s).1
def q5 (s : List UInt8) := rdN 4 (q4 s).1
def q6 (s : List UInt8) := rdN 4 (q5 s).1
def hearR (s : List UInt8) : Rq := (((q2 s).2 : Int), ((q3 s).2 : Int), ((q4 s).2 : Int), ((q5 s).2 : Int), ((q6 s).2 : Int))
def hearOK (s : List UInt8) : Bool := decide (endE (q6 s).1 = 0) && (decide ((q1 s).2 = asks) && kindOK ((q2 s).2 : Int))
theorem hear_ask {r : Rq} (hf : rqFit r = true) (hk : kindOK (rqK r) = true) : hearOK (askB r) = true ∧ hearR (askB r) = r := by
 unfold rqFit at hf
 simp only [Bool.and_eq_true, fit_iff] at hf
 obtain ⟨⟨a1, a2⟩, ⟨b1, b2⟩, ⟨c1, c2⟩, ⟨d1, d2⟩, ⟨e1, e2⟩⟩ := hf
 have g1 : q1 (askB r) = _ := rdN_forth (n := asks) (w := 4) (by decide) _
 have g2 : q2 (askB r) = _ := (congrArg (fun x : St × Nat => rdN 1 x.1) g1).trans (rdN_forth a2 _)
 have g3 : q3 (askB r) = _ := (congrArg (fun x : St × Nat => rdN 1 x.1) g2).trans (rdN_forth b2 _)
 have g4 : q4 (askB r) = _ := (congrArg (fun x : St × Nat => rdN 2 x.1) g3).trans (rdN_forth c2 _)
 have g5 : q5 (askB r) = _ := (congrArg (fun x : St × Nat => rdN 4 x.1) g4).trans (rdN_forth d2 _)
 have g6 : q6 (askB r) = (([], 0), (rqL r).toNat) := by
   unfold q6
   rw [g5]
   have := rdN_forth e2 []
   rwa [List.append_nil] at this
 refine ⟨?_, ?_⟩
 · unfold hearOK
   rw [g6, g1, g2]
   rw [show (((rqK r).toNat : Nat) : Int) = rqK r by omega, hk]
   rfl
 · unfold hearR
   rw [g2, g3, g4, g5, g6]
   obtain ⟨k, c, h, a, l⟩ := r
   simp only [Prod.mk.injEq]
   exact ⟨Int.toNat_of_nonneg a1, Int.toNat_of_nonneg b1, Int.toNat_of_nonneg c1, Int.toNat_of_nonneg d1, Int.toNat_of_nonneg e1⟩
/-! ### replies -/
abbrev Rp := Int × Int × List UInt8
@[reducible] def uRp : U := .pr (.int .i64) (.pr (.int .i64) (.sl .u8))
def tellB (e h : Int) (b : List UInt8) : List UInt8 := encR tells 4 ++ (encR e.toNat 2 ++ (encR h.toNat 2 ++ encT b 4))
def tellOK (e h : Int) (b : List UInt8) : Bool := fit 2 e && (fit 2 h && fit 4 ((b.length : Nat) : Int))
def t1 (st : St) := rdN 4 st
def t2 (st : St) := rdN 2 (t1 st).1
def t3 (st : St) := rdN 2 (t2 st).1
def t4 (st : St) := rdT 4 (t3 st).1
def rpV (st : St) : Rp := (((t2 st).2 : Int), ((t3 st).2 : Int), (t4 st).2)
def rpOK (st : St) : Bool := decide ((t4 st).1.2 = 0) && decide ((t1 st).2 = tells)
/-- What Replies tells, so many at most. -/
def rplL : Nat → St → Option (List Rp)
 | 0, _ => some []
 | n + 1, st => if st.1 = [] then some [] else if rpOK st = true then (rplL n (t4 st).1).map (rpV st :: ·) else none
theorem rp_tell {e h : Int} {b : List UInt8} (hf : tellOK e h b = true) (t : List UInt8) : rpOK (tellB e h b ++ t, 0) = true ∧ rpV (tellB e h b ++ t, 0) = (e, h, b) ∧ (t4 (tellB e h b ++ t, 0)).1 = (t, 0) := by
 unfold tellOK at hf
 simp only [Bool.and_eq_true, fit_iff] at hf
 obtain ⟨⟨a1, a2⟩, ⟨b1, b2⟩, ⟨c1, c2⟩⟩ := hf
 have e0 : tellB e h b ++ t = encR tells 4 ++ (encR e.toNat 2 ++ (encR h.toNat 2 ++ (encT b 4 ++ t))) := by
   unfold tellB
   simp only [List.append_assoc]
 rw [e0]
 have g1 : t1 (encR tells 4 ++ (encR e.toNat 2 ++ (encR h.toNat 2 ++ (encT b 4 ++ t))), 0) = _ := rdN_forth (n := tells) (w := 4) (by decide) _
 have g2 : t2 (encR tells 4 ++ (encR e.toNat 2 ++ (encR h.toNat 2 ++ (encT b 4 ++ t))), 0) = _ := (congrArg (fun x : St × Nat => rdN 2 x.1) g1).trans (rdN_forth a2 _)
 have g3 : t3 (encR tells 4 ++ (encR e.toNat 2 ++ (encR h.toNat 2 ++ (encT b 4 ++ t))), 0) = _ := (congrArg (fun x : St × Nat => rdN 2 x.1) g2).trans (rdN_forth b2 _)
 have g4 : t4 (encR tells 4 ++ (encR e.toNat 2 ++ (encR h.toNat 2 ++ (encT b 4 ++ t))), 0) = ((t, 0), b) := by
   unfold t4
   rw [g3]
   exact rdT_forth (by simpa using c2) t
 refine ⟨?_, ?_, ?_⟩
 · unfold rpOK
   rw [g4, g1]
   rfl
 · unfold rpV
   rw [g2, g3, g4]
   simp only [Prod.mk.injEq]
   exact ⟨Int.toNat_of_nonneg a1, Int.toNat_of_nonneg b1, trivial⟩
 · rw [g4]
end Go.Proofs.YtojaemgabaehdaaGreat
/-!
  Independence, with short lists of who comes ahead.
-/
namespace Go.Proofs.YtojaemgabaehdaaGreat
set_option linter.unusedVariables false
set_option linter.unusedSimpArgs false
open Go.RowKit
/-! ### independence, with short lists of who comes ahead -/
def uni : List Nat → List Nat → List Nat
 | [], r => r
 | x :: l, r => match r.contains x with
   | true => uni l r
   | false => uni l (x :: r)
theorem uni_mem {a : Nat} : ∀ {l r : List Nat}, a ∈ uni l r → a ∈ l ∨ a ∈ r
 | [], r, h => .inr h
 | x :: l, r, h => by
   unfold uni at h
   split at h
   · rcases uni_mem h with h | h
     · exact .inl (List.mem_cons_of_mem _ h)
     · exact .inr h
   · rcases uni_mem h with h | h
     · exact .inl (List.mem_cons_of_mem _ h)
     · rcases List.mem_cons.1 h with rfl | h
       · exact .inl (List.mem_cons_self ..)
       · exact .inr h
def ancs1 (acc : List (List Nat)) : List Nat → List Nat
 | [] => []
 | d :: l => uni (d :: acc.getD d []) (ancs1 acc l)
theorem ancs1_mem {acc : List (List Nat)} {a : Nat} : ∀ {l : List Nat}, a ∈ ancs1 acc l → a ∈ l ∨ ∃ d ∈ l, a ∈ acc.getD d []
 | [], h => by cases h
 | d :: l, h => by
   rcases uni_mem h with h | h
   · rcases List.mem_cons.1 h with rfl | h
     · exact .inl (List.mem_cons_self ..)
     · exact .inr ⟨d, List.mem_cons_self .., h⟩
   · rcases ancs1_mem h with h | ⟨e, he, h⟩
     · exact .inl (List.mem_cons_of_mem _ h)
     · exact .inr ⟨e, List.mem_cons_of_mem _ he, h⟩
def ancsU : List Oper → List (List Nat) → List (List Nat)
 | [], acc => acc
 | o :: l, acc => ancsU l (acc ++ [ancs1 acc (depsOf o)])
theorem ancsU_sub : ∀ (l : List Oper) (acc acc' : List (List Nat)), acc.length = acc'.length → (∀ j a, a ∈ acc.getD j [] → a ∈ acc'.getD j []) → ∀ j a, a ∈ (ancsU l acc).getD j [] → a ∈ (ancs l acc').getD j []
 | [], acc, acc', _, h => h
 | o :: l, acc, acc', hl, h => by
   unfold ancsU ancs
   refine ancsU_sub l _ _ (by simp [hl]) ?_
   intro j a ha
   rw [List.getD_eq_getElem?_getD] at ha ⊢
   rcases Nat.lt_trichotomy j acc.length with hlt | heq | hgt
   · rw [List.getElem?_append_left hlt, ← List.getD_eq_getElem?_getD] at ha
     rw [List.getElem?_append_left (hl ▸ hlt), ← List.getD_eq_getElem?_getD]
     exact h j a ha
   · subst heq
     rw [List.getElem?_append_right (Nat.le_refl _)] at ha
     rw [List.getElem?_append_right (Nat.le_of_eq hl.symm)]
     simp only [Nat.sub_self, List.getElem?_cons_zero, Option.getD_some] at ha
     simp only [hl, Nat.sub_self, List.getElem?_cons_zero, Option.getD_some, List.mem_append, List.mem_flatMap]
     rcases ancs1_mem ha with ha | ⟨d, hd, ha⟩
     · exact .inl ha
     · exact .inr ⟨d, hd, h d a ha⟩
   · rw [List.getElem?_eq_none (by simp; omega)] at ha
     simp at ha
theorem pairs_sub {all : List Oper} {an an' : List (List Nat)} (h : ∀ j a, a ∈ an.getD j [] → a ∈ an'.getD j []) : ∀ l : List (Oper × Ent × Nat), pairsOK all an l = true → pairsOK all an' l = true
 | [], _ => rfl
 | (o, n, i) :: l, hp => by
   simp only [pairsOK, Bool.and_eq_true] at hp ⊢
   refine ⟨List.all_eq_true.2 fun x hx => ?_, pairs_sub h l hp.2⟩
   have := List.all_eq_true.1 hp.1 x hx
   obtain ⟨p, m, j⟩ := x
   simp only [Bool.or_eq_true, Bool.and_eq_true, List.contains_iff_mem] at this ⊢
   exact this.imp (fun g => ⟨h _ _ g.1, g.2⟩) id
def indepU (K : KL) (B : BL) (ops : List Oper) (log : List Ent) : Bool :=
 let es := log.reverse
 (ops.zipIdx.all fun (o, i) => (depsOf o).all fun d => Nat.blt d i) && (es.all fun n => n.e.nw.all fun c => noK c K && noB c B) && pairsOK ops (ancsU ops []) ((ops.zip es).zipIdx.map fun ((o, n), i) => (o, n, i))
theorem indep_of {K : KL} {B : BL} {ops : List Oper} {log : List Ent} (h : indepU K B ops log = true) : indep K B ops log = true := by
 simp only [indepU, Bool.and_eq_true] at h
 simp only [indep, Bool.and_eq_true]
 exact ⟨h.1, pairs_sub (ancsU_sub ops [] [] rfl fun _ _ h => h) _ h.2⟩
end Go.Proofs.YtojaemgabaehdaaGreat
/-!
  Export: put, form, Ask, Hear, Tell.
-/
namespace Go.Proofs.YtojaemgabaehdaaGreat
set_option linter.unusedVariables false
set_option linter.unusedSimpArgs false
set_option maxRecDepth 10000
open Go.RowKit Go.Proofs
theorem pw_of {w : Nat} (hw : W w) : (2 ^ (8 * ((w : Nat) : Int)).toNat : Nat) = 256 ^ w ∧ 256 ^ w ≤ 4294967296 := by
 rcases hw with rfl | rfl | rfl <;> decide
theorem ofits_any (n : Int) (w : Nat) (hw : W w) : Fn Tryz.prog 291 [vI n, vI (w : Nat)] [] [] (vB (fit w n)) [] := by
 have hp := pw_of hw
 have hw4 : w ≤ 4 := by unfold W at hw; omega
 unfold fit
 generalize 256 ^ w = p at *
 refine Fn.of tblOK [] _ _ _ _ _ Tryz.func291 rfl rfl (by kernel_rfl) (by kernel_rfl) rfl (drawOK tblOK) rfl ?_
 refine ⟨fun h => ?_, fun h1 => ?_⟩
 · have h : ((w : Nat) : Int) = 8 := of_decide_eq_true h
   omega
 refine ⟨fun h => ?_, fun h => ?_⟩
 · have h : decide ((0 : Int) ≤ n) = true := h
   refine ⟨by omega, ⟨by omega, by omega, by omega⟩, ?_, ?_⟩
   · rw [hp.1]; omega
   refine ⟨_, _, _, Le.refl _ _, rfl, ?_, trivial, rfl⟩
   show decide (n < 1 * ((2 ^ (8 * ((w : Nat) : Int)).toNat : Nat) : Int)) = (decide (0 ≤ n) && decide (n < ((p : Nat) : Int)))
   rw [hp.1, h, Int.one_mul]
   rfl
 · have h : decide ((0 : Int) ≤ n) = false := h
   refine ⟨_, _, _, Le.refl _ _, rfl, (show false = (decide (0 ≤ n) && decide (n < ((p : Nat) : Int))) by rw [h]; rfl), trivial, rfl⟩
theorem oput_no (xs : List UInt8) (w : Nat) (n : Int) (hw : W w) (hn : fit w n = false) : Fn Tryz.prog 222 [vOwn 1001, vI (w : Nat), vL uInt [n]] (byR 1001 xs) [] (.tup [.one (.own 1001), .one (.d (.bool false))]) (byR 1001 xs) := by
 have hf := ofits_any n w hw
 rw [hn] at hf
 refine Fn.of tblOK [] _ _ _ _ _ Tryz.func222 rfl rfl (by kernel_rfl) (by kernel_rfl) rfl (drawOK tblOK) rfl ?_
 refine ⟨_, _, _, _, oright_spec w hw, trivial, rfl, ?_⟩
 refine ⟨fun h => absurd h (by decide), fun _ => ?_⟩
 show TrQ _ _ _ _ _ _ _
 refine TrQ.loop tblOK (drawOK tblOK) [] (by kernel_rfl) (X := Unit) (fun _ => [(0, vOwn 1001), (1, vI (w : Nat)), (17, vL uInt [n]), (18, vI 1), (19, vI 0)]) (fun _ => byR 1001 xs) (fun _ => True) (fun _ => 0) () trivial ?_ ?_
 · exact Le.sub ⟨rfl, rfl, rfl, rfl, rfl, trivial⟩ ⟨rfl, trivial⟩
 rintro ⟨⟩ -
 refine ⟨fun _ => ?_, fun h => absurd h (by decide)⟩
 refine ⟨by decide, n, rfl, ?_⟩
 refine ⟨_, _, _, _, hf, trivial, rfl, ?_⟩
 refine ⟨fun _ => ?_, fun h => absurd h (by decide)⟩
 exact ⟨_, _, _, Le.refl _ _, rfl, ⟨rfl, rfl, trivial⟩, ⟨rfl, trivial⟩, rfl⟩
/-! ### put -/
@[reducible] def uFd : U := .pr (.int .i64) (.int .i64)
abbrev Fd := Nat × Int
@[reducible] def fdE (f : Fd) : El uFd := @Prod.mk Int Int (f.1 : Int) f.2
@[reducible] def fdL (l : List Fd) : List (El uFd) := l.map fdE
def fdOK (l : List Fd) : Bool := l.all fun f => fit f.1 f.2
def fdB (l : List Fd) : List UInt8 := l.flatMap fun f => encR f.2.toNat f.1
theorem fdB_step {l : List Fd} {k : Nat} (h : k < l.length) : fdB (l.take (k + 1)) = fdB (l.take k) ++ encR (l[k]).2.toNat (l[k]).1 := by
 unfold fdB
 rw [← take_step h, List.flatMap_append]
 simp
theorem fdB_len {l : List Fd} (hw : ∀ f, f ∈ l → W f.1) : (fdB l).length ≤ 4 * l.length := by
 induction l with
 | nil => exact Nat.zero_le _
 | cons f l ih =>
   have := ih fun x hx => hw x (List.mem_cons_of_mem _ hx)
   have hf := hw f (List.mem_cons_self ..)
   unfold W at hf
   show (encR f.2.toNat f.1 ++ fdB l).length ≤ 4 * (l.length + 1)
   rw [List.length_append, encR_length]
   omega
@[reducible] def epK (l : List Fd) (k : Nat) : KL := [(4, vOwn 5001), (9, vL uFd (fdL l)), (10, vI (l.length : Nat)), (11, vI (k : Nat))]
theorem eput_fn (l : List Fd) (hw : ∀ f, f ∈ l → W f.1) (hl : l.length ≤ 1000) (hf : fdOK l = true) : Fn Tryz.prog 138 [vL uFd (fdL l)] [] [1001] (.tup [.one (.own 1001), .one (.d (.bool true))]) (byR 1001 (fdB l)) := by
 have hll : List.length (fdL l) = l.length := List.length_map _
 refine Fn.of tblOK [5] _ _ _ _ _ Tryz.func138 rfl rfl (by kernel_rfl) (by kernel_rfl) rfl (drawOK tblOK) rfl ?_
 show TrQ _ _ _ _ _ _ _
 refine TrQ.loop tblOK (drawOK tblOK) [5] (by kernel_rfl) (X := Nat) (fun k => epK l k) (fun k => byR 5001 (fdB (l.take k))) (fun k => k ≤ l.length) (fun k => l.length - k) 0 (Nat.zero_le _) ?_ ?_
 · exact Le.trans (Le.nil 4 5001 5 .u8 rfl rfl) (Le.sub ⟨rfl, rfl, congrArg Int.ofNat hll, rfl, trivial⟩ ⟨rfl, trivial⟩)
 intro k hk
 have hk : k ≤ l.length := hk
 refine ⟨fun h => ?_, fun h => ?_⟩
 · have hk1 : k < l.length := by
     have h : decide ((k : Int) < ((l.length : Nat) : Int)) = true := h
     have := of_decide_eq_true h
     omega
   have hget : lget (fdL l) k = some (fdE l[k]) := by
     show (l.map fdE)[k]? = _
     rw [List.getElem?_map, List.getElem?_eq_getElem hk1]
     rfl
   have hst := fdB_step hk1
   have hmem := List.getElem_mem hk1
   have hwk := hw _ hmem
   have hfk := fit_iff.1 (List.all_eq_true.1 hf _ hmem)
   have hb := fdB_len (l := l.take k) fun f hf => hw f (List.mem_of_mem_take hf)
   have hb2 : (l.take k).length ≤ 1000 := by rw [List.length_take]; omega
   generalize l[k] = f at *
   obtain ⟨w, n⟩ := f
   have hp := put_spec (fdB (l.take k)) w [n.toNat] hwk (fun m hm => by simp only [List.mem_singleton] at hm; subst hm; exact hfk.2) (by simp) (by omega)
   have e1 : (ints [n.toNat] : List Int) = [n] := by
     show [((n.toNat : Nat) : Int)] = [n]
     rw [Int.toNat_of_nonneg hfk.1]
   have e2 : encNs w [n.toNat] = encR n.toNat w := by unfold encNs; simp
   have e1 : (ints [n.toNat] : List (El uInt)) = ([n] : List Int) := e1
   rw [e1, e2] at hp
   refine ⟨by omega, _, hget, ?_⟩
   refine ⟨rfl, ?_⟩
   show TrQ _ _ _ _ _ _ _
   refine TrQ.go tblOK (drawOK tblOK) [] (by kernel_rfl) (Le.refl _ _) ?_
   refine ⟨_, _, _, _, Fn.ren [(1001, 5001), (1002, 5002)] hp, ⟨rfl, trivial⟩, rfl, ?_⟩
   refine ⟨fun h => absurd h (by decide), fun _ => ?_⟩
   exact ⟨by omega, k + 1, hk1, by omega, Le.trans (Le.sub (K' := [(4, vOwn 5002), (9, vL uFd (fdL l)), (10, vI (l.length : Nat)), (11, vI ((k + 1 : Nat) : Int))]) (B' := byR 5002 (fdB (l.take (k + 1)))) ⟨rfl, rfl, rfl, rfl, trivial⟩ ⟨congrArg (fun z => some (Ch.row 5 .u8 z)) hst.symm, trivial⟩) (Le.trans (Le.ren 5002 5001 rfl) (Le.sub ⟨rfl, rfl, rfl, rfl, trivial⟩ ⟨rfl, trivial⟩))⟩
 · have hk1 : k = l.length := by
     have h : decide ((k : Int) < ((l.length : Nat) : Int)) = false := h
     have := of_decide_eq_false h
     omega
   subst hk1
   exact ⟨_, _, _, Le.ren 5001 1001 rfl, rfl, ⟨rfl, rfl, trivial⟩, ⟨congrArg (fun z => some (Ch.row 5 .u8 (fdB z))) (List.take_length ..), trivial⟩, rfl⟩
theorem eput_no (l : List Fd) (hw : ∀ f, f ∈ l → W f.1) (hl : l.length ≤ 1000) (hf : fdOK l = false) : Fn Tryz.prog 138 [vL uFd (fdL l)] [] [] (.tup [.one .nils, .one (.d (.bool false))]) [] := by
 have hll : List.length (fdL l) = l.length := List.length_map _
 refine Fn.of tblOK [5] _ _ _ _ _ Tryz.func138 rfl rfl (by kernel_rfl) (by kernel_rfl) rfl (drawOK tblOK) rfl ?_
 show TrQ _ _ _ _ _ _ _
 refine TrQ.loop tblOK (drawOK tblOK) [5] (by kernel_rfl) (X := Nat) (fun k => epK l k) (fun k => byR 5001 (fdB (l.take k))) (fun k => k ≤ l.length ∧ fdOK (l.take k) = true) (fun k => l.length - k) 0 ⟨Nat.zero_le _, rfl⟩ ?_ ?_
 · exact Le.trans (Le.nil 4 5001 5 .u8 rfl rfl) (Le.sub ⟨rfl, rfl, congrArg Int.ofNat hll, rfl, trivial⟩ ⟨rfl, trivial⟩)
 rintro k ⟨hk, hpre⟩
 have hk : k ≤ l.length := hk
 have hpre : fdOK (l.take k) = true := hpre
 refine ⟨fun h => ?_, fun h => ?_⟩
 · have hk1 : k < l.length := by
     have h : decide ((k : Int) < ((l.length : Nat) : Int)) = true := h
     have := of_decide_eq_true h
     omega
   have hget : lget (fdL l) k = some (fdE l[k]) := by
     show (l.map fdE)[k]? = _
     rw [List.getElem?_map, List.getElem?_eq_getElem hk1]
     rfl
   have hst := fdB_step hk1
   have hpre2 : fit (l[k]).1 (l[k]).2 = true → fdOK (l.take (k + 1)) = true := by
     intro hx
     unfold fdOK at hpre ⊢
     rw [← take_step hk1, List.all_append, hpre]
     show (true && (fit (l[k]).1 (l[k]).2 && true)) = true
     rw [hx]
     rfl
   have hmem := List.getElem_mem hk1
   have hwk := hw _ hmem
   have hb := fdB_len (l := l.take k) fun f hf => hw f (List.mem_of_mem_take hf)
   have hb2 : (l.take k).length ≤ 1000 := by rw [List.length_take]; omega
   generalize l[k] = f at *
   obtain ⟨w, n⟩ := f
   refine ⟨by omega, _, hget, ?_⟩
   refine ⟨rfl, ?_⟩
   show TrQ _ _ _ _ _ _ _
   refine (Bool.eq_false_or_eq_true (fit w n)).elim (fun hfit => ?_) (fun hfit => ?_)
   · have hfk := fit_iff.1 hfit
     have hp := put_spec (fdB (l.take k)) w [n.toNat] hwk (fun m hm => by simp only [List.mem_singleton] at hm; subst hm; exact hfk.2) (by simp) (by omega)
     have e1 : (ints [n.toNat] : List Int) = [n] := by
       show [((n.toNat : Nat) : Int)] = [n]
       rw [Int.toNat_of_nonneg hfk.1]
     have e2 : encNs w [n.toNat] = encR n.toNat w := by unfold encNs; simp
     have e1 : (ints [n.toNat] : List (El uInt)) = ([n] : List Int) := e1
     rw [e1, e2] at hp
     refine TrQ.go tblOK (drawOK tblOK) [] (by kernel_rfl) (Le.refl _ _) ?_
     refine ⟨_, _, _, _, Fn.ren [(1001, 5001), (1002, 5002)] hp, ⟨rfl, trivial⟩, rfl, ?_⟩
     refine ⟨fun h => absurd h (by decide), fun _ => ?_⟩
     exact ⟨by omega, k + 1, ⟨hk1, hpre2 hfit⟩, by omega, Le.trans (Le.sub (K' := [(4, vOwn 5002), (9, vL uFd (fdL l)), (10, vI (l.length : Nat)), (11, vI ((k + 1 : Nat) : Int))]) (B' := byR 5002 (fdB (l.take (k + 1)))) ⟨rfl, rfl, rfl, rfl, trivial⟩ ⟨congrArg (fun z => some (Ch.row 5 .u8 z)) hst.symm, trivial⟩) (Le.trans (Le.ren 5002 5001 rfl) (Le.sub ⟨rfl, rfl, rfl, rfl, trivial⟩ ⟨rfl, trivial⟩))⟩
   · have hp := oput_no (fdB (l.take k)) w n hwk hfit
     refine TrQ.go tblOK (drawOK tblOK) [] (by kernel_rfl) (Le.refl _ _) ?_
     refine ⟨_, _, _, _, Fn.ren [(1001, 5001)] hp, ⟨rfl, trivial⟩, rfl, ?_⟩
     refine ⟨fun _ => ?_, fun h => absurd h (by decide)⟩
     exact ⟨_, _, _, Le.refl _ _, rfl, ⟨rfl, rfl, trivial⟩, trivial, rfl⟩
 · have hk1 : k = l.length := by
     have h : decide ((k : Int) < ((l.length : Nat) : Int)) = false := h
     have := of_decide_eq_false h
     omega
   subst hk1
   rw [List.take_length, hf] at hpre
   cases hpre
/-! Export: form, right, Ask, Hear, Tell, Left, Replies. -/
theorem eform_ok (b : List UInt8) : Fn Tryz.prog 139 [vOwn 1001, vB true] (byR 1001 b) [] (.tup [.one (.own 1001), .one (.d (.int .i64 0))]) (byR 1001 b) := by
 refine Fn.of tblOK [] _ _ _ _ _ Tryz.func139 rfl rfl (by kernel_rfl) (by kernel_rfl) rfl (drawOK tblOK) rfl ?_
 refine ⟨fun h => absurd h (by decide), fun _ => ?_⟩
 exact ⟨_, _, _, Le.refl _ _, rfl, ⟨rfl, rfl, trivial⟩, ⟨rfl, trivial⟩, rfl⟩
@[reducible] def rqS (r : Rq) : List S1 := [.d (.int .i64 (rqK r)), .d (.int .i64 (rqC r)), .d (.int .i64 (rqH r)), .d (.int .i64 (rqA r)), .d (.int .i64 (rqL r))]
@[reducible] def rqV (r : Rq) : SV := .c (.agg (rqS r))
@[reducible] def rq0 : Rq := (0, 0, 0, 0, 0)
@[reducible] def rqOr (b : Bool) (r : Rq) : Rq := bif b then r else rq0
@[reducible] def e200 (b : Bool) : Int := bif b then 0 else 200
theorem form_rq (r : Rq) (b : Bool) : Fn Tryz.prog 171 [rqV r, vB b] [] [] (.tup [.agg (rqS (rqOr b r)), .one (.d (.int .i64 (e200 b)))]) [] := by
 refine Fn.of tblOK [] _ _ _ _ _ Tryz.func171 rfl rfl (by kernel_rfl) (by kernel_rfl) rfl (drawOK tblOK) rfl ?_
 refine ⟨rfl, rfl, ?_⟩
 refine ⟨fun h => ?_, fun h => ?_⟩
 · have h : (!b) = true := h
   have hb : b = false := by simpa using h
   subst hb
   refine ⟨rfl, ?_⟩
   exact ⟨_, _, _, Le.refl _ _, rfl, ⟨⟨rfl, rfl, rfl, rfl, rfl, trivial⟩, rfl, trivial⟩, trivial, rfl⟩
 · have h : (!b) = false := h
   have hb : b = true := by simpa using h
   subst hb
   exact ⟨_, _, _, Le.refl _ _, rfl, ⟨⟨rfl, rfl, rfl, rfl, rfl, trivial⟩, rfl, trivial⟩, trivial, rfl⟩
theorem eright_fn (k : Int) : Fn Tryz.prog 140 [vI k] [] [] (vB (kindOK k)) [] := by
 refine Fn.of tblOK [] _ _ _ _ _ Tryz.func140 rfl rfl (by kernel_rfl) (by kernel_rfl) rfl (drawOK tblOK) rfl ?_
 refine ⟨fun h => ?_, fun h => ?_⟩
 · have h : decide ((1 : Int) ≤ k) = true := h
   refine ⟨_, _, _, Le.refl _ _, rfl, ?_, trivial, rfl⟩
   show _ = (decide (1 ≤ k) && decide (k ≤ 4))
   rw [h]
   rfl
 · have h : decide ((1 : Int) ≤ k) = false := h
   refine ⟨_, _, _, Le.refl _ _, rfl, ?_, trivial, rfl⟩
   show _ = (decide (1 ≤ k) && decide (k ≤ 4))
   rw [h]
   rfl
/-! ### Ask -/
@[reducible] def rqF (r : Rq) : List Fd := [(4, 1886286962), (1, rqK r), (1, rqC r), (2, rqH r), (4, rqA r), (4, rqL r)]
theorem rqF_W (r : Rq) : ∀ f, f ∈ rqF r → W f.1 := by
 intro f hf
 simp only [rqF, List.mem_cons, List.not_mem_nil, or_false] at hf
 unfold W
 rcases hf with rfl | rfl | rfl | rfl | rfl | rfl <;> simp
theorem rqF_ok (r : Rq) : fdOK (rqF r) = rqFit r := by
 show (fit 4 1886286962 && (fit 1 (rqK r) && (fit 1 (rqC r) && (fit 2 (rqH r) && (fit 4 (rqA r) && (fit 4 (rqL r) && true)))))) = _
 rw [show fit 4 1886286962 = true from rfl, Bool.and_true, Bool.true_and]
 rfl
theorem rqF_B (r : Rq) : fdB (rqF r) = askB r := by
 show encR asks 4 ++ (encR (rqK r).toNat 1 ++ (encR (rqC r).toNat 1 ++ (encR (rqH r).toNat 2 ++ (encR (rqA r).toNat 4 ++ (encR (rqL r).toNat 4 ++ []))))) = _
 rw [List.append_nil]
 rfl
theorem ask_ok (r : Rq) (hf : rqFit r = true) (hk : kindOK (rqK r) = true) : Fn Tryz.prog 36 [rqV r] [] [1001] (.tup [.one (.own 1001), .one (.d (.int .i64 0))]) (byR 1001 (askB r)) := by
 have hp := eput_fn (rqF r) (rqF_W r) (by simp) ((rqF_ok r).trans hf)
 rw [rqF_B] at hp
 have hr := eright_fn (rqK r)
 rw [hk] at hr
 refine Fn.of tblOK [] _ _ _ _ _ Tryz.func36 rfl rfl (by kernel_rfl) (by kernel_rfl) rfl (drawOK tblOK) rfl ?_
 refine ⟨rfl, ?_⟩
 refine ⟨_, _, _, _, hp, trivial, rfl, ?_⟩
 refine ⟨fun _ => ?_, fun h => absurd h (by decide)⟩
 refine ⟨_, _, _, _, hr, trivial, rfl, ?_⟩
 refine ⟨_, _, _, _, eform_ok (askB r), ⟨rfl, trivial⟩, rfl, ?_⟩
 exact ⟨_, _, _, Le.refl _ _, rfl, ⟨rfl, rfl, trivial⟩, ⟨rfl, trivial⟩, rfl⟩
/-! ### what is heard fits -/
theorem rdN_lt (w : Nat) (st : St) : (rdN w st).2 < 256 ^ w :=
 Nat.lt_of_lt_of_le (decN_lt (tkX w st)) (Nat.pow_le_pow_right (by decide) (tkX_length w st))
theorem fit_rd (w : Nat) (st : St) : fit w (((rdN w st).2 : Nat) : Int) = true :=
 fit_iff.2 ⟨by omega, by rw [Int.toNat_natCast]; exact rdN_lt w st⟩
theorem hearR_fit (s : List UInt8) : rqFit (hearR s) = true := by
 unfold rqFit
 have a1 : fit 1 (rqK (hearR s)) = true := fit_rd 1 _
 have a2 : fit 1 (rqC (hearR s)) = true := fit_rd 1 _
 have a3 : fit 2 (rqH (hearR s)) = true := fit_rd 2 _
 have a4 : fit 4 (rqA (hearR s)) = true := fit_rd 4 _
 have a5 : fit 4 (rqL (hearR s)) = true := fit_rd 4 _
 rw [a1, a2, a3, a4, a5]
 rfl
/-! ### Hear -/
set_option maxHeartbeats 1000000 in
theorem hear_fn (s : List UInt8) (hs : s.length ≤ 4294967296) : Fn Tryz.prog 84 [vL .u8 s] [] [] (.tup [.agg (rqS (rqOr (hearOK s) (hearR s))), .one (.d (.int .i64 (e200 (hearOK s))))]) [] := by
 have h1 := num_spec (s, 0) 4 (by unfold W; simp)
 have h2 := num_spec (q1 s).1 1 (by unfold W; simp)
 have h3 := num_spec (q2 s).1 1 (by unfold W; simp)
 have h4 := num_spec (q3 s).1 2 (by unfold W; simp)
 have h5 := num_spec (q4 s).1 4 (by unfold W; simp)
 have h6 := num_spec (q5 s).1 4 (by unfold W; simp)
 have he := end_spec (q6 s).1
 have hr := eright_fn ((q2 s).2 : Int)
 have hok : hearOK s = (decide (endE (q6 s).1 = 0) && (decide (((q1 s).2 : Int) = 1886286962) && kindOK ((q2 s).2 : Int))) := by
   unfold hearOK
   congr 2
   exact decide_eq_decide.2 (by unfold asks; omega)
 have hR : hearR s = (((q2 s).2 : Int), ((q3 s).2 : Int), ((q4 s).2 : Int), ((q5 s).2 : Int), ((q6 s).2 : Int)) := rfl
 rw [hok, hR]
 change Fn _ _ _ _ _ (vI ((q1 s).2 : Nat)) (rrB (q1 s).1) at h1
 change Fn _ _ _ _ _ (vI ((q2 s).2 : Nat)) (rrB (q2 s).1) at h2
 change Fn _ _ _ _ _ (vI ((q3 s).2 : Nat)) (rrB (q3 s).1) at h3
 change Fn _ _ _ _ _ (vI ((q4 s).2 : Nat)) (rrB (q4 s).1) at h4
 change Fn _ _ _ _ _ (vI ((q5 s).2 : Nat)) (rrB (q5 s).1) at h5
 change Fn _ _ _ _ _ (vI ((q6 s).2 : Nat)) (rrB (q6 s).1) at h6
 clear hok hR
 generalize q1 s = a1 at *
 generalize q2 s = a2 at *
 generalize q3 s = a3 at *
 generalize q4 s = a4 at *
 generalize q5 s = a5 at *
 generalize q6 s = a6 at *
 obtain ⟨s1, n1⟩ := a1
 obtain ⟨s2, n2⟩ := a2
 obtain ⟨s3, n3⟩ := a3
 obtain ⟨s4, n4⟩ := a4
 obtain ⟨s5, n5⟩ := a5
 obtain ⟨s6, n6⟩ := a6
 simp only at h1 h2 h3 h4 h5 h6 he hr ⊢
 refine Fn.of tblOK [] _ _ _ _ _ Tryz.func84 rfl rfl (by kernel_rfl) (by kernel_rfl) rfl (drawOK tblOK) rfl ?_
 refine ⟨rfl, ?_⟩
 refine ⟨_, _, _, _, newReader_spec s hs, trivial, rfl, ?_⟩
 refine ⟨_, _, _, _, h1, ⟨rfl, trivial⟩, rfl, ?_⟩
 refine ⟨_, _, _, _, h2, ⟨rfl, trivial⟩, rfl, ?_⟩
 refine ⟨_, _, _, _, h3, ⟨rfl, trivial⟩, rfl, ?_⟩
 refine ⟨_, _, _, _, h4, ⟨rfl, trivial⟩, rfl, ?_⟩
 refine ⟨_, _, _, _, h5, ⟨rfl, trivial⟩, rfl, ?_⟩
 refine ⟨_, _, _, _, h6, ⟨rfl, trivial⟩, rfl, ?_⟩
 refine ⟨rfl, ?_⟩
 refine ⟨_, _, _, _, he, ⟨rfl, trivial⟩, rfl, ?_⟩
 refine ⟨fun h => ?_, fun h => ?_⟩
 · have h : decide (endE s6 = 0) = true := h
   rw [h]
   refine ⟨fun g => ?_, fun g => ?_⟩
   · have g : decide ((n1 : Int) = 1886286962) = true := g
     rw [g]
     refine ⟨_, _, _, _, hr, trivial, rfl, ?_⟩
     refine ⟨_, _, _, _, form_rq (n2, n3, n4, n5, n6) (kindOK (n2 : Int)), trivial, rfl, ?_⟩
     refine ⟨indep_of (by kernel_rfl), ?_⟩
     exact ⟨_, _, _, Le.refl _ _, rfl, ⟨⟨rfl, rfl, rfl, rfl, rfl, trivial⟩, rfl, trivial⟩, trivial, rfl⟩
   · have g : decide ((n1 : Int) = 1886286962) = false := g
     rw [g]
     refine ⟨_, _, _, _, Fn.arg (form_rq (n2, n3, n4, n5, n6) false) ⟨⟨rfl, rfl, rfl, rfl, rfl, trivial⟩, rfl, trivial⟩, trivial, rfl, ?_⟩
     refine ⟨indep_of (by kernel_rfl), ?_⟩
     exact ⟨_, _, _, Le.refl _ _, rfl, ⟨⟨rfl, rfl, rfl, rfl, rfl, trivial⟩, rfl, trivial⟩, trivial, rfl⟩
 · have h : decide (endE s6 = 0) = false := h
   rw [h]
   refine ⟨_, _, _, _, Fn.arg (form_rq (n2, n3, n4, n5, n6) false) ⟨⟨rfl, rfl, rfl, rfl, rfl, trivial⟩, rfl, trivial⟩, trivial, rfl, ?_⟩
   refine ⟨indep_of (by kernel_rfl), ?_⟩
   exact ⟨_, _, _, Le.refl _ _, rfl, ⟨⟨rfl, rfl, rfl, rfl, rfl, trivial⟩, rfl, trivial⟩, trivial, rfl⟩
/-! Export: Tell, Left, Replies. -/
@[reducible] def rpS (e h : Int) (b : List UInt8) : List S1 := [.d (.int .i64 e), .d (.int .i64 h), .d (.lst .u8 b)]
@[reducible] def rpA (e h : Int) (b : List UInt8) : SV := .c (.agg (rpS e h b))
@[reducible] def rpF (e h : Int) (n : Nat) : List Fd := [(4, 1886286945), (2, e), (2, h), (4, (n : Int))]
theorem rpF_W (e h : Int) (n : Nat) : ∀ f, f ∈ rpF e h n → W f.1 := by
 intro f hf
 simp only [rpF, List.mem_cons, List.not_mem_nil, or_false] at hf
 unfold W
 rcases hf with rfl | rfl | rfl | rfl <;> simp
theorem rpF_ok (e h : Int) (b : List UInt8) : fdOK (rpF e h b.length) = tellOK e h b := by
 show (fit 4 1886286945 && (fit 2 e && (fit 2 h && (fit 4 ((b.length : Nat) : Int) && true)))) = _
 rw [show fit 4 1886286945 = true from rfl, Bool.and_true, Bool.true_and]
 rfl
theorem rpF_B (e h : Int) (b : List UInt8) : fdB (rpF e h b.length) ++ b = tellB e h b := by
 show (encR tells 4 ++ (encR e.toNat 2 ++ (encR h.toNat 2 ++ (encR b.length 4 ++ [])))) ++ b = encR tells 4 ++ (encR e.toNat 2 ++ (encR h.toNat 2 ++ (encR b.length 4 ++ b)))
 simp only [List.append_assoc, List.append_nil]
theorem tell_ok (e h : Int) (b : List UInt8) (hb : b.length ≤ 1000000000) (hf : tellOK e h b = true) : Fn Tryz.prog 226 [rpA e h b] [] [1001] (.tup [.one (.own 1001), .one (.d (.int .i64 0))]) (byR 1001 (tellB e h b)) := by
 have hp := eput_fn (rpF e h b.length) (rpF_W e h b.length) (by simp) ((rpF_ok e h b).trans hf)
 have hB := rpF_B e h b
 have hl := fdB_len (rpF_W e h b.length)
 have hl : (fdB (rpF e h b.length)).length ≤ 16 := hl
 generalize fdB (rpF e h b.length) = x at *
 have hl2 : x.length + b.length ≤ 4294967296 := by omega
 rw [← hB]
 refine Fn.of tblOK [] _ _ _ _ _ Tryz.func226 rfl rfl (by kernel_rfl) (by kernel_rfl) rfl (drawOK tblOK) rfl ?_
 refine ⟨rfl, ?_⟩
 refine ⟨_, _, _, _, Fn.ren [(1001, 5001)] hp, trivial, rfl, ?_⟩
 refine ⟨hl2, rfl, ?_⟩
 refine ⟨_, _, _, _, Fn.ren [(1001, 25)] (eform_ok (x ++ b)), ⟨rfl, trivial⟩, rfl, ?_⟩
 exact ⟨_, _, _, Le.ren 25 1001 rfl, rfl, ⟨rfl, rfl, trivial⟩, ⟨rfl, trivial⟩, rfl⟩
theorem left_fn (st : St) : Fn Tryz.prog 143 [vP 1001] (rrB st) [] (vI (st.1.length : Nat)) (rrB st) := by
 obtain ⟨s, e⟩ := st
 refine Fn.of tblOK [] _ _ _ _ _ Tryz.func143 rfl rfl (by kernel_rfl) (by kernel_rfl) rfl (drawOK tblOK) rfl ?_
 exact ⟨_, _, _, Le.refl _ _, rfl, rfl, ⟨rfl, trivial⟩, rfl⟩
/-! ### Replies, plain -/
theorem rp_len {st : St} (h : rpOK st = true) : (t4 st).1.1.length < st.1.length := by
 unfold rpOK at h
 simp only [Bool.and_eq_true, decide_eq_true_iff] at h
 obtain ⟨a1, a2⟩ := rdT_back (w := 4) (st := (t3 st).1) h.1
 obtain ⟨b1, b2⟩ := rdN_back (w := 2) (st := (t2 st).1) a1
 obtain ⟨c1, c2⟩ := rdN_back (w := 2) (st := (t1 st).1) b1
 obtain ⟨d1, d2⟩ := rdN_back (w := 4) (st := st) c1
 have a3 := congrArg List.length a2
 have b3 := congrArg List.length b2
 have c3 := congrArg List.length c2
 have d3 := congrArg List.length d2
 rw [List.length_append, encT_length] at a3
 rw [List.length_append, encR_length] at b3 c3 d3
 change _ = 2 + (t3 st).1.1.length at b3
 change _ = 2 + (t2 st).1.1.length at c3
 change _ = 4 + (t1 st).1.1.length at d3
 change _ = 4 + _ + (t4 st).1.1.length at a3
 omega
theorem tkX_len (n : Nat) (st : St) : (tkX n st).length ≤ st.1.length := by
 unfold tkX
 split
 · exact Nat.zero_le _
 · rw [List.length_take]; omega
theorem tkS_len (n : Nat) (st : St) : (tkS n st).1.length ≤ st.1.length := by
 unfold tkS
 split
 · exact Nat.le_refl _
 · split
   · exact Nat.le_refl _
   · rw [List.length_drop]; omega
theorem t4_len (st : St) : (t4 st).2.length ≤ st.1.length :=
 Nat.le_trans (tkX_len _ _) (Nat.le_trans (tkS_len _ _) (Nat.le_trans (tkS_len _ _) (Nat.le_trans (tkS_len _ _) (tkS_len _ _))))
theorem rpl_step {n : Nat} {st : St} {acc l : List Rp} (hn : st.1.length < n) (hp : 0 < st.1.length) (h : (rplL n st).map (acc ++ ·) = some l) :
   rpOK st = true ∧ ∃ m, n = m + 1 ∧ (t4 st).1.1.length < m ∧ (rplL m (t4 st).1).map ((acc ++ [rpV st]) ++ ·) = some l := by
 obtain ⟨m, rfl⟩ : ∃ m, n = m + 1 := ⟨n - 1, by omega⟩
 have hne : ¬ st.1 = [] := fun e => by rw [e] at hp; exact absurd hp (by decide)
 unfold rplL at h
 rw [if_neg hne] at h
 by_cases hk : rpOK st = true
 · rw [if_pos hk, Option.map_map] at h
   have := rp_len hk
   refine ⟨hk, m, rfl, by omega, ?_⟩
   rw [← h]
   congr 1
   funext x
   simp
 · rw [if_neg hk] at h
   cases h
theorem rpl_end {n : Nat} {st : St} {acc l : List Rp} (hp : st.1.length = 0) (h : (rplL n st).map (acc ++ ·) = some l) : acc = l := by
 have hne : st.1 = [] := List.eq_nil_of_length_eq_zero hp
 have e : rplL n st = some [] := by
   cases n with
   | zero => rfl
   | succ n => unfold rplL; rw [if_pos hne]
 rw [e] at h
 simpa using h
theorem rpl_cons {n : Nat} {e h : Int} {b t : List UInt8} (hf : tellOK e h b = true) : rplL (n + 1) (tellB e h b ++ t, 0) = (rplL n (t, 0)).map ((e, h, b) :: ·) := by
 obtain ⟨h1, h2, h3⟩ := rp_tell hf t
 have hl := rp_len h1
 have hne : ¬ (tellB e h b ++ t) = [] := fun e => by
   rw [e] at hl
   exact absurd hl (Nat.not_lt_zero _)
 conv => lhs; unfold rplL
 rw [if_neg hne, if_pos h1, h2, h3]
theorem rpl_nil (n : Nat) : rplL n ([], 0) = some [] := by
 cases n <;> rfl
/-! ### Replies -/
@[reducible] def rpB (acc : List (El uRp)) (st : St) : BL := [(5001, .row 86 uRp acc), (5002, .cells [.d (.lst .u8 st.1), .d (.int .i64 st.2)])]
@[reducible] def rpB2 (acc : List (El uRp)) (st : St) : BL := [(33, .row 86 uRp acc), (5002, .cells [.d (.lst .u8 st.1), .d (.int .i64 st.2)])]
set_option maxHeartbeats 1000000 in
theorem replies_ok (s : List UInt8) (l : List Rp) (hs : s.length ≤ 100000) (hr : rplL (s.length + 1) (s, 0) = some l) : Fn Tryz.prog 40 [vL .u8 s] [] [1001] (.tup [.one (.own 1001), .one (.d (.int .i64 0))]) [(1001, .row 86 uRp l)] := by
 refine Fn.of tblOK [] _ _ _ _ _ Tryz.func40 rfl rfl (by kernel_rfl) (by kernel_rfl) rfl (drawOK tblOK) rfl ?_
 refine ⟨_, _, _, _, Fn.ren [(1001, 5002)] (newReader_spec s (by omega)), trivial, rfl, ?_⟩
 show TrQ _ _ _ _ _ _ _
 refine TrQ.loop tblOK (drawOK tblOK) [] (by kernel_rfl) (X := List Rp × St × Nat) (fun _ => [(4, vOwn 5001), (5, vP 5002)]) (fun x => rpB x.1 x.2.1) (fun x => x.2.1.1.length < x.2.2 ∧ x.1.length + x.2.1.1.length ≤ s.length ∧ (rplL x.2.2 x.2.1).map (x.1 ++ ·) = some l) (fun x => x.2.2) ([], (s, 0), s.length + 1) ⟨Nat.lt_succ_self _, (by show 0 + s.length ≤ s.length; omega), by rw [hr]; simp⟩ ?_ ?_
 · exact Le.trans (Le.nil 4 5001 86 uRp rfl rfl) (Le.sub ⟨rfl, rfl, trivial⟩ ⟨rfl, rfl, trivial⟩)
 rintro ⟨acc, st, n⟩ ⟨hn, hlen, hrp⟩
 have hn : st.1.length < n := hn
 have hlen : acc.length + st.1.length ≤ s.length := hlen
 have g0 := left_fn st
 have g1 := num_spec st 4 (by unfold W; simp)
 have g2 := num_spec (t1 st).1 2 (by unfold W; simp)
 have g3 := num_spec (t2 st).1 2 (by unfold W; simp)
 have g4 := text_spec (t3 st).1 4 (by unfold W; simp)
 have g5 := err_spec (t4 st).1
 change Fn _ _ _ _ _ (vI ((t1 st).2 : Nat)) (rrB (t1 st).1) at g1
 change Fn _ _ _ _ _ (vI ((t2 st).2 : Nat)) (rrB (t2 st).1) at g2
 change Fn _ _ _ _ _ (vI ((t3 st).2 : Nat)) (rrB (t3 st).1) at g3
 change Fn _ _ _ _ _ (vS (t4 st).2) (rrB (t4 st).1) at g4
 have hrp : (rplL n st).map (acc ++ ·) = some l := hrp
 have hA := fun hp => rpl_step hn hp hrp
 have hE := fun hp => rpl_end hp hrp
 have hK : rpOK st = (decide ((t4 st).1.2 = 0) && decide (((t1 st).2 : Int) = 1886286945)) := by
   unfold rpOK
   congr 1
   exact decide_eq_decide.2 (by unfold tells; omega)
 have hL := @rp_len st
 have hT := t4_len st
 have hV : rpV st = (((t2 st).2 : Int), ((t3 st).2 : Int), (t4 st).2) := rfl
 rw [hK] at hL hA
 rw [hV] at hA
 clear hK hV hrp
 generalize t1 st = a1 at *
 generalize t2 st = a2 at *
 generalize t3 st = a3 at *
 generalize t4 st = a4 at *
 obtain ⟨s1, n1⟩ := a1
 obtain ⟨s2, n2⟩ := a2
 obtain ⟨s3, n3⟩ := a3
 obtain ⟨⟨s4, e4⟩, b4⟩ := a4
 obtain ⟨s0, e0⟩ := st
 simp only at g0 g1 g2 g3 g4 g5 hA hE hL hn hlen hT
 have hT : b4.length ≤ 4294967296 := by omega
 refine ⟨_, _, _, _, Fn.ren [(1001, 5002)] g0, ⟨rfl, trivial⟩, rfl, ?_⟩
 refine ⟨fun h => ?_, fun h => ?_⟩
 · have hp : 0 < s0.length := by
     have h : decide ((0 : Int) < ((s0.length : Nat) : Int)) = true := h
     have := of_decide_eq_true h
     omega
   have hA := hA hp
   obtain ⟨hb, m, rfl, hm, hrp⟩ := hA
   have hL := hL hb
   rw [Bool.and_eq_true, decide_eq_true_iff, decide_eq_true_iff] at hb
   obtain ⟨rfl, hmg⟩ := hb
   rw [hmg] at g1
   refine ⟨_, _, _, _, Fn.ren [(1001, 5002)] g1, ⟨rfl, trivial⟩, rfl, ?_⟩
   refine ⟨_, _, _, _, Fn.ren [(1001, 5002)] g2, ⟨rfl, trivial⟩, rfl, ?_⟩
   refine ⟨_, _, _, _, Fn.ren [(1001, 5002)] g3, ⟨rfl, trivial⟩, rfl, ?_⟩
   refine ⟨_, _, _, _, Fn.ren [(1001, 5002)] g4, ⟨rfl, trivial⟩, rfl, ?_⟩
   refine ⟨hT, rfl, ?_⟩
   refine ⟨_, _, _, _, Fn.ren [(1001, 5002)] g5, ⟨rfl, trivial⟩, rfl, ?_⟩
   refine ⟨fun h => absurd h (by decide), fun _ => ?_⟩
   refine ⟨fun h => absurd h (by decide), fun _ => ?_⟩
   have hl1 : acc.length + 1 ≤ 4294967296 := by omega
   refine ⟨hl1, rfl, ?_⟩
   exact ⟨(acc ++ [((n2 : Int), (n3 : Int), b4)], (s4, 0), m), ⟨hm, (by show (acc ++ [((n2 : Int), (n3 : Int), b4)]).length + s4.length ≤ s.length; rw [List.length_append]; show acc.length + 1 + s4.length ≤ s.length; omega), hrp⟩, Nat.lt_succ_self m, Le.trans (Le.sub (K' := [(4, vOwn 33), (5, vP 5002)]) (B' := rpB2 (acc ++ [((n2 : Int), (n3 : Int), b4)]) (s4, 0)) ⟨rfl, rfl, trivial⟩ ⟨rfl, rfl, trivial⟩) (Le.trans (Le.ren 33 5001 rfl) (Le.sub ⟨rfl, rfl, trivial⟩ ⟨rfl, rfl, trivial⟩))⟩
 · have hp : s0.length = 0 := by
     have h : decide ((0 : Int) < ((s0.length : Nat) : Int)) = false := h
     have := of_decide_eq_false h
     omega
   have hE := hE hp
   subst hE
   exact ⟨_, _, _, Le.ren 5001 1001 rfl, rfl, ⟨rfl, rfl, trivial⟩, ⟨rfl, trivial⟩, rfl⟩
/-! Export: Extents. -/
@[reducible] def uXt : U := .pr (.int .i64) (.pr (.int .i64) (.int .i64))
abbrev Xt3 := Int × Int × Int
def x1 (st : St) := rdN 4 st
def x2 (st : St) := rdN 1 (x1 st).1
/-- What Extents tells, so many at most. -/
def xtL : Nat → Int → St → Option (List Xt3)
 | 0, _, _ => some []
 | n + 1, a, st => if st.1 = [] then some [] else if (x2 st).1.2 = 0 then (xtL n (a + ((x1 st).2 : Int)) (x2 st).1).map ((a, ((x1 st).2 : Int), ((x2 st).2 : Int)) :: ·) else none
theorem xt_len {st : St} (h : (x2 st).1.2 = 0) : (x2 st).1.1.length + 5 = st.1.length := by
 obtain ⟨a1, a2⟩ := rdN_back (w := 1) (st := (x1 st).1) h
 obtain ⟨b1, b2⟩ := rdN_back (w := 4) (st := st) a1
 have a3 := congrArg List.length a2
 have b3 := congrArg List.length b2
 rw [List.length_append, encR_length] at a3 b3
 change _ = 1 + (x2 st).1.1.length at a3
 change _ = 4 + (x1 st).1.1.length at b3
 omega
theorem xtL_step {n : Nat} {a : Int} {st : St} {acc l : List Xt3} (hn : st.1.length < n) (hp : 0 < st.1.length) (h : (xtL n a st).map (acc ++ ·) = some l) :
   (x2 st).1.2 = 0 ∧ ∃ m, n = m + 1 ∧ (x2 st).1.1.length < m ∧ (xtL m (a + ((x1 st).2 : Int)) (x2 st).1).map ((acc ++ [(a, ((x1 st).2 : Int), ((x2 st).2 : Int))]) ++ ·) = some l := by
 obtain ⟨m, rfl⟩ : ∃ m, n = m + 1 := ⟨n - 1, by omega⟩
 have hne : ¬ st.1 = [] := fun e => by rw [e] at hp; exact absurd hp (by decide)
 unfold xtL at h
 rw [if_neg hne] at h
 by_cases hk : (x2 st).1.2 = 0
 · rw [if_pos hk, Option.map_map] at h
   have := xt_len hk
   refine ⟨hk, m, rfl, by omega, ?_⟩
   rw [← h]
   congr 1
   funext x
   simp
 · rw [if_neg hk] at h
   cases h
theorem xtL_end {n : Nat} {a : Int} {st : St} {acc l : List Xt3} (hp : st.1.length = 0) (h : (xtL n a st).map (acc ++ ·) = some l) : acc = l := by
 have hne : st.1 = [] := List.eq_nil_of_length_eq_zero hp
 have e : xtL n a st = some [] := by
   cases n with
   | zero => rfl
   | succ n => unfold xtL; rw [if_pos hne]
 rw [e] at h
 simpa using h
theorem x1_lt (st : St) : (x1 st).2 < 4294967296 := by
 have h := decN_lt (tkX 4 st)
 have h2 := tkX_length 4 st
 exact Nat.lt_of_lt_of_le h (Nat.le_trans (Nat.pow_le_pow_right (by decide) h2) (by decide))
/-! ### Extents -/
@[reducible] def xtB (acc : List (El uXt)) (st : St) : BL := [(5001, .row 89 uXt acc), (5002, .cells [.d (.lst .u8 st.1), .d (.int .i64 st.2)])]
@[reducible] def xtB2 (acc : List (El uXt)) (st : St) : BL := [(25, .row 89 uXt acc), (5002, .cells [.d (.lst .u8 st.1), .d (.int .i64 st.2)])]
set_option maxHeartbeats 1000000 in
theorem exts_ok (s : List UInt8) (l : List Xt3) (hs : s.length ≤ 100000) (hr : xtL (s.length + 1) 0 (s, 0) = some l) : Fn Tryz.prog 41 [vL .u8 s] [] [1001] (.tup [.one (.own 1001), .one (.d (.int .i64 0))]) [(1001, .row 89 uXt l)] := by
 refine Fn.of tblOK [] _ _ _ _ _ Tryz.func41 rfl rfl (by kernel_rfl) (by kernel_rfl) rfl (drawOK tblOK) rfl ?_
 refine ⟨_, _, _, _, Fn.ren [(1001, 5002)] (newReader_spec s (by omega)), trivial, rfl, ?_⟩
 show TrQ _ _ _ _ _ _ _
 refine TrQ.loop tblOK (drawOK tblOK) [] (by kernel_rfl) (X := List Xt3 × Int × St × Nat) (fun x => [(4, vOwn 5001), (5, vP 5002), (6, vI x.2.1)]) (fun x => xtB x.1 x.2.2.1) (fun x => x.2.2.1.1.length < x.2.2.2 ∧ x.1.length + x.2.2.1.1.length ≤ s.length ∧ (0 ≤ x.2.1 ∧ x.2.1 ≤ 4294967296 * (x.1.length : Int)) ∧ (xtL x.2.2.2 x.2.1 x.2.2.1).map (x.1 ++ ·) = some l) (fun x => x.2.2.2) ([], 0, (s, 0), s.length + 1) ⟨Nat.lt_succ_self _, (by show 0 + s.length ≤ s.length; omega), ⟨Int.le_refl 0, Int.le_refl 0⟩, by rw [hr]; simp⟩ ?_ ?_
 · exact Le.trans (Le.nil 4 5001 89 uXt rfl rfl) (Le.sub ⟨rfl, rfl, rfl, trivial⟩ ⟨rfl, rfl, trivial⟩)
 rintro ⟨acc, a, st, n⟩ ⟨hn, hlen, ha, hrp⟩
 have hn : st.1.length < n := hn
 have hlen : acc.length + st.1.length ≤ s.length := hlen
 have ha : 0 ≤ a ∧ a ≤ 4294967296 * (acc.length : Int) := ha
 have g0 := left_fn st
 have g1 := num_spec st 4 (by unfold W; simp)
 have g2 := num_spec (x1 st).1 1 (by unfold W; simp)
 have g5 := err_spec (x2 st).1
 change Fn _ _ _ _ _ (vI ((x1 st).2 : Nat)) (rrB (x1 st).1) at g1
 change Fn _ _ _ _ _ (vI ((x2 st).2 : Nat)) (rrB (x2 st).1) at g2
 have hx := x1_lt st
 have hrp : (xtL n a st).map (acc ++ ·) = some l := hrp
 have hA := fun hp => xtL_step hn hp hrp
 have hE := fun hp => xtL_end hp hrp
 have hL := @xt_len st
 clear hrp
 generalize x1 st = a1 at *
 generalize x2 st = a2 at *
 obtain ⟨s1, n1⟩ := a1
 obtain ⟨⟨s4, e4⟩, n2⟩ := a2
 obtain ⟨s0, e0⟩ := st
 simp only at g0 g1 g2 g5 hA hE hL hn hlen hx
 refine ⟨_, _, _, _, Fn.ren [(1001, 5002)] g0, ⟨rfl, trivial⟩, rfl, ?_⟩
 refine ⟨fun h => ?_, fun h => ?_⟩
 · have hp : 0 < s0.length := by
     have h : decide ((0 : Int) < ((s0.length : Nat) : Int)) = true := h
     have := of_decide_eq_true h
     omega
   have hA := hA hp
   obtain ⟨rfl, m, rfl, hm, hrp⟩ := hA
   have hL := hL rfl
   refine ⟨_, _, _, _, Fn.ren [(1001, 5002)] g1, ⟨rfl, trivial⟩, rfl, ?_⟩
   refine ⟨_, _, _, _, Fn.ren [(1001, 5002)] g2, ⟨rfl, trivial⟩, rfl, ?_⟩
   refine ⟨rfl, ?_⟩
   refine ⟨_, _, _, _, Fn.ren [(1001, 5002)] g5, ⟨rfl, trivial⟩, rfl, ?_⟩
   refine ⟨fun h => absurd h (by decide), fun _ => ?_⟩
   have hl1 : acc.length + 1 ≤ 4294967296 := by omega
   have hl2 : -9223372036854775808 ≤ a + (n1 : Int) ∧ a + (n1 : Int) ≤ 9223372036854775807 := by omega
   refine ⟨hl1, rfl, hl2, ?_⟩
   have q1 : (acc ++ [(a, (n1 : Int), (n2 : Int))]).length = acc.length + 1 := by rw [List.length_append]; rfl
   exact ⟨(acc ++ [(a, (n1 : Int), (n2 : Int))], a + (n1 : Int), (s4, 0), m), ⟨hm, (by show (acc ++ [(a, (n1 : Int), (n2 : Int))]).length + s4.length ≤ s.length; omega), (by show 0 ≤ a + (n1 : Int) ∧ a + (n1 : Int) ≤ 4294967296 * ((acc ++ [(a, (n1 : Int), (n2 : Int))]).length : Int); rw [q1]; omega), hrp⟩, Nat.lt_succ_self m, Le.trans (Le.sub (K' := [(4, vOwn 25), (5, vP 5002), (6, vI (a + (n1 : Int)))]) (B' := xtB2 (acc ++ [(a, (n1 : Int), (n2 : Int))]) (s4, 0)) ⟨rfl, rfl, rfl, trivial⟩ ⟨rfl, rfl, trivial⟩) (Le.trans (Le.ren 25 5001 rfl) (Le.sub ⟨rfl, rfl, rfl, trivial⟩ ⟨rfl, rfl, trivial⟩))⟩
 · have hp : s0.length = 0 := by
     have h : decide ((0 : Int) < ((s0.length : Nat) : Int)) = false := h
     have := of_decide_eq_false h
     omega
   have hE := hE hp
   subst hE
   exact ⟨_, _, _, Le.ren 5001 1001 rfl, rfl, ⟨rfl, rfl, trivial⟩, ⟨rfl, trivial⟩, rfl⟩
end Go.Proofs.YtojaemgabaehdaaGreat
