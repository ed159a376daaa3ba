/-
  Soundness of the conditions: each operation.
-/
import Derived.Test.YthghcdddambaeaaSndM
set_option linter.unusedVariables false
set_option linter.unusedSimpArgs false
namespace Go.Proofs.Ythghcdddambaeaa
open Go.RowKit

section
variable {P : Program} {tt : Tr} {N : Nat} {ids : List Nat} {o : Oper} {K : KL} {B : BL} {k : SV → Eff → Prop}
/-- Something is to be shown behind it, and it does that. -/
def Snd (P : Program) (N : Nat) (ids : List Nat) (o : Oper) (K : KL) (B : BL) (k : SV → Eff → Prop) : Prop := ∃ v e, k v e ∧ OpOK P N ids o K B v e ∧ ∀ c, c ∈ e.nw → freshB ids K B c = true
theorem Snd.of {v : SV} {rc : List Nat} {wc : List (Nat × Option Ch)} (h : k v ⟨rc, [], wc⟩) (hO : OpOK P N ids o K B v ⟨rc, [], wc⟩) : Snd P N ids o K B k := ⟨_, _, h, hO, fun c hc => by cases hc⟩
theorem Snd.nw {v : SV} {rc : List Nat} {d : Nat} {wc : List (Nat × Option Ch)} (h : k v ⟨rc, [d], wc⟩) (hf : freshB ids K B d = true) (hO : OpOK P N ids o K B v ⟨rc, [d], wc⟩) : Snd P N ids o K B k := ⟨_, _, h, hO, fun c hc => by simp at hc; rw [hc]; exact hf⟩
theorem snd_move {x : Operand} (ho : o.op = .move x ∨ o.op = .assign x) (h : forceV (opv K x) fun v => k v e0) : Snd P N ids o K B k := by
  rw [forceV_eq] at h
  refine Snd.of h <| OpOK.one rfl (by rcases ho with ho | ho <;> rw [ho] <;> simp [Op.operands]) fun K' ρ I a w hS e => ⟨_, ?_, hS.ev e⟩
  rcases ho with ho | ho <;> simp [execOp, ho]
theorem snd_pick {c x y : Operand} (ho : o.op = .pick c x y) (h : match opv K c with
    | .c (.one (.d (.lit true))) => forceV (opv K x) fun v => k v e0
    | .c (.one (.d (.lit false))) => forceV (opv K y) fun v => k v e0
    | _ => False) : Snd P N ids o K B k := by
  have m1 : c ∈ o.op.operands := by rw [ho]; simp [Op.operands]
  have m2 : x ∈ o.op.operands := by rw [ho]; simp [Op.operands]
  have m3 : y ∈ o.op.operands := by rw [ho]; simp [Op.operands]
  split at h
  · rename_i hc
    rw [forceV_eq] at h
    exact Snd.of h <| OpOK.two hc rfl m1 m2 fun K' ρ I a w hS e1 e2 => ⟨_, by simp [execOp, ho, hS.lit e1, asBool], hS.ev e2⟩
  · rename_i hc
    rw [forceV_eq] at h
    exact Snd.of h <| OpOK.two hc rfl m1 m3 fun K' ρ I a w hS e1 e2 => ⟨_, by simp [execOp, ho, hS.lit e1, asBool], hS.ev e2⟩
  · exact h.elim
theorem snd_not {T : TypeId} {x : Operand} (ho : o.op = .unOp .not T x) (h : match opv K x with
    | .c (.one (.d (.lit true))) => k (.c (.one (.d (.lit false)))) e0
    | .c (.one (.d (.lit false))) => k (.c (.one (.d (.lit true)))) e0
    | .c (.one (.d (.bool b))) => k (.c (.one (.d (.bool (!b))))) e0
    | _ => False) : Snd P N ids o K B k := by
  have m1 : x ∈ o.op.operands := by rw [ho]; simp [Op.operands]
  split at h
  · rename_i hc; exact Snd.of h <| OpOK.one hc m1 fun K' ρ I a w hS e1 => ⟨_, by simp [execOp, ho, hS.lit e1, Op.unary], rfl⟩
  · rename_i hc; exact Snd.of h <| OpOK.one hc m1 fun K' ρ I a w hS e1 => ⟨_, by simp [execOp, ho, hS.lit e1, Op.unary], rfl⟩
  · rename_i b hc; exact Snd.of h <| OpOK.one hc m1 fun K' ρ I a w hS e1 => ⟨_, by simp [execOp, ho, hS.bool e1, Op.unary], rfl⟩
  · exact h.elim
theorem DenCL.get {ρ : Nat → Pl} {I : Nat → Prop} {w : World} : ∀ (l : List SC) (vs : List Value), DenCL ρ I w l vs → ∀ (i : Nat) (s : SC), l[i]? = some s → ∃ v, vs[i]? = some v ∧ DenC ρ I w s v
  | [], _, h, i, s, hs => by simp at hs
  | t :: l, _, ⟨v, r, e, h1, h2⟩, 0, s, hs => by
    simp only [List.getElem?_cons_zero, Option.some.injEq] at hs
    subst hs e
    exact ⟨v, rfl, h1⟩
  | t :: l, _, ⟨v, r, e, h1, h2⟩, i + 1, s, hs => by
    subst e
    simpa using DenCL.get l r h2 i s (by simpa using hs)
theorem snd_extract {x : Operand} {i : Nat} (ho : o.op = .extract x i) (h : match opv K x with
    | .tup l => match l[i]? with
      | some v => k (.c v) e0
      | none => False
    | _ => False) : Snd P N ids o K B k := by
  have m1 : x ∈ o.op.operands := by rw [ho]; simp [Op.operands]
  split at h
  · rename_i l hl
    split at h
    · rename_i v hv
      refine Snd.of h <| OpOK.one hl m1 fun K' ρ I a w hS e1 => ?_
      obtain ⟨vs, e, h2⟩ := hS.ev e1
      obtain ⟨u, hu, h3⟩ := DenCL.get l vs h2 i v hv
      exact ⟨u, by simp [execOp, ho, e, Instr.extract, hu], h3⟩
    · exact h.elim
  · exact h.elim
theorem snd_nilCheck {x : Operand} (ho : o.op = .nilCheck x) (h : match opv K x with
    | .c (.one (.ptr c o)) => k (.c (.one (.ptr c o))) e0
    | .c (.one (.el u y o)) => k (.c (.one (.el u y o))) e0
    | .c (.one (.rp c s i o)) => k (.c (.one (.rp c s i o))) e0
    | _ => False) : Snd P N ids o K B k := by
  have m1 : x ∈ o.op.operands := by rw [ho]; simp [Op.operands]
  split at h
  · rename_i c p hc; exact Snd.of h <| OpOK.one hc m1 fun K' ρ I a w hS e1 => ⟨_, by simp [execOp, ho, hS.ptr e1], rfl⟩
  · rename_i u y p hc
    refine Snd.of h <| OpOK.one hc m1 fun K' ρ I a w hS e1 => ⟨a.eval x, ?_, hS.ev e1⟩
    obtain ⟨b, q, e, _⟩ := hS.ev e1
    simp [execOp, ho, e]
  · rename_i c s i p hc; exact Snd.of h <| OpOK.one hc m1 fun K' ρ I a w hS e1 => ⟨_, by simp [execOp, ho, hS.rp e1], rfl⟩
  · exact h.elim
theorem exec_field {ev : Operand → Value} {T : TypeId} {x : Operand} {f g off d : Nat} {w : World} {fs : Array Field} {fd : Field} {i : TypeInfo} (h1 : ev x = .pointer (some ⟨g, off, none⟩)) (ho : o.op = .fieldAddr T x f)
    (hT : P.underlying T = some (.struct fs)) (hfd : fs[f]? = some fd) (hd : fd.offset = d) (hi : P.info? fd.type = some i) (hsz : i.size ≠ 0) : (execOp ev o).run P w = .ok (.value (.pointer (some ⟨g, off + d, none⟩))) w := by
  subst hd
  simp [execOp, ho, h1, Instr.fieldAt, run_underlying hT, hfd, Instr.sureAddr, fieldPlace, sizeOf, typeInfo, hi, hsz, addr_add]
theorem snd_field (hP : TblOK P tt) {T : TypeId} {x : Operand} {f : Nat} (ho : o.op = .fieldAddr T x f) (h : match offOf tt T f with
    | some (d, _) => match opv K x with
      | .c (.one (.ptr c o)) => k (.c (.one (.ptr c (o + d)))) e0
      | .c (.one (.el u y o)) => k (.c (.one (.el u y (o + d)))) e0
      | .c (.one (.rp c s i o)) => k (.c (.one (.rp c s i (o + d)))) e0
      | _ => False
    | none => False) : Snd P N ids o K B k := by
  have m1 : x ∈ o.op.operands := by rw [ho]; simp [Op.operands]
  split at h
  · rename_i d n hd
    have ⟨fs, fd, i, hT, hfd, hod, hi, hz⟩ : ∃ fs fd i, P.underlying T = some (.struct fs) ∧ fs[f]? = some fd ∧ fd.offset = d ∧ P.info? fd.type = some i ∧ i.size ≠ 0 := by
      unfold offOf at hd
      split at hd
      · rename_i ti hti
        split at hd
        · rename_i hk
          obtain ⟨i, dd, hok⟩ := hP.at_ hti
          obtain ⟨fs, hu, rfl⟩ := hok.st hk
          obtain ⟨fd, i', h1, h2, h3, h4, h5⟩ := offsL_get _ _ (hok.offs fs rfl) f d n hd
          exact ⟨fs, fd, i', hu, by simpa using h1, h2, h3, by rw [h4]; exact h5⟩
        · cases hd
      · cases hd
    split at h
    · rename_i c p hc
      exact Snd.of h <| OpOK.one hc m1 fun K' ρ I a w hS e1 => ⟨_, exec_field (hS.ptr e1) ho hT hfd hod hi hz, rfl⟩
    · rename_i u y p hc
      refine Snd.of h <| OpOK.one hc m1 fun K' ρ I a w hS e1 => ?_
      obtain ⟨b, q, e, h2⟩ := hS.ev e1
      exact ⟨_, exec_field e ho hT hfd hod hi hz, b, q, by rw [Nat.add_assoc], h2⟩
    · rename_i c s j p hc
      exact Snd.of h <| OpOK.one hc m1 fun K' ρ I a w hS e1 => ⟨_, exec_field (hS.rp e1) ho hT hfd hod hi hz, by simp only [DenV, DenC, DenS]; rw [Nat.add_assoc]⟩
    · exact h.elim
  · exact h.elim
theorem listU_den {ρ : Nat → Pl} {I : Nat → Prop} {w : World} {u : U} {y : El u} {c : Nat → Option Value} (hy : DenU I w u y c) : ∀ (n p : Nat), p + n ≤ sz u → ∃ vs, DenL ρ I w (listU u y p n) vs ∧ ∀ (j : Nat) (v : Value), vs[j]? = some v → c (p + j) = some v
  | 0, p, _ => ⟨[], rfl, fun j v h => by simp at h⟩
  | n + 1, p, h => by
    obtain ⟨v, h1, h2⟩ := DenU.cell u y c p hy (by omega)
    obtain ⟨vs, h3, h4⟩ := listU_den hy n (p + 1) (by omega)
    refine ⟨v :: vs, ⟨v, vs, rfl, h2, h3⟩, fun j v' hj => ?_⟩
    match j with
    | 0 => simp only [List.getElem?_cons_zero, Option.some.injEq] at hj; subst hj; exact h1
    | j + 1 => rw [show p + (j + 1) = p + 1 + j by omega]; exact h4 j v' (by simpa using hj)
theorem listU_length (u : U) (y : El u) : ∀ (n p : Nat), (listU u y p n).length = n
  | 0, _ => rfl
  | n + 1, p => by simp [listU, listU_length u y n]
/-- A load out of data that lies at a place. -/
theorem load_el {T : TypeId} {x : Operand} (ho : o.op = .load T x) {ti : TI} {i : TypeInfo} {d : TypeDesc} (hok : TIok P T ti i d) {u : U} {y : El u} {p : Nat} {a : Act} {w : World} {I : Nat → Prop} {ρ : Nat → Pl} {b q : Nat}
    (he : a.eval x = .pointer (some ⟨b, q + p, none⟩)) (hy : DenU I w u y (fun j => w.cell? ⟨b, q + j, none⟩)) :
    (ti.row = true → p + ti.size ≤ sz u → ∃ r, (execOp a.eval o).run P w = .ok (.value r) w ∧ DenV ρ I w (.c (.agg (listU u y p ti.size))) r) ∧
    (ti.row = false → p < sz u → ∃ r, (execOp a.eval o).run P w = .ok (.value r) w ∧ DenV ρ I w (.c (.one (.d (cellU u y p)))) r) := by
  constructor
  · intro hr hle
    obtain ⟨vs, h1, h2⟩ := listU_den (ρ := ρ) hy ti.size p hle
    refine ⟨_, exec_loadn (cs := vs) ho he hok.und (hok.row.trans hr) hok.info (by rw [DenL.length _ _ h1, listU_length]; exact hok.size) (fun j v hj => ?_), vs, rfl, h1⟩
    rw [Nat.add_assoc]
    exact h2 j v hj
  · intro hr hlt
    obtain ⟨v, h1, h2⟩ := DenU.cell u y _ p hy hlt
    exact ⟨v, exec_load1 ho he hok.und (hok.row.trans hr) h1, h2⟩
theorem row_at {ρ : Nat → Pl} {I F : Nat → Prop} {w : World} {p : Pl} {e : TypeId} {u : U} {xs : List (El u)} (h : Holds ρ I F w p (.row e u xs)) {i : Nat} {y : El u} (hy : lget xs i = some y) :
    DenU I w u y (fun j => w.cell? ⟨p.blk, i * sz u + j, none⟩) := by
  obtain ⟨h1, h2, cs, h3, h4⟩ := h
  refine DenU.mono (Ext.refl _ _) u y _ _ (fun j v hj => ?_) (h4 i y hy)
  have hj : cs[i * sz u + j]? = some v := hj
  have hx := lget_lt hy
  have h3' := h3
  obtain ⟨hl, h3⟩ := h3
  rcases h3 with ⟨_, h0⟩ | ⟨g, cap, cur, hv, _, hg, _, _, _, ht⟩
  · omega
  · have hb : p.hdr.ownBlock = some g := by rw [hv]; rfl
    rw [← h2 g hb]
    have := h3'.cells hb (i * sz u + j) v hj
    rwa [addr_add, Nat.zero_add] at this
theorem snd_load (hP : TblOK P tt) {T : TypeId} {x : Operand} (ho : o.op = .load T x) (h : match tt.find T with
    | some ti => match opv K x with
      | .c (.one (.ptr c o)) => match lookB B c with
        | some (.cells l) => match ti.row with
          | true => match Nat.ble (o + ti.size) l.length with
            | true => forceL ((l.drop o).take ti.size) fun l => k (.c (.agg l)) ⟨[c], [], []⟩
            | false => False
          | false => match l[o]? with
            | some s => forceS s fun s => k (.c (.one s)) ⟨[c], [], []⟩
            | none => False
        | _ => False
      | .c (.one (.el u y o)) => match ti.row with
        | true => match Nat.ble (o + ti.size) (sz u) with
          | true => forceL (listU u y o ti.size) fun l => k (.c (.agg l)) e0
          | false => False
        | false => match Nat.blt o (sz u) with
          | true => forceD (cellU u y o) fun x => k (.c (.one (.d x))) e0
          | false => False
      | .c (.one (.rp c s i o)) => match lookB B c with
        | some (.row _ u xs) => match Nat.beq s (sz u) with
          | true => ∃ y, lget xs i = some y ∧ match ti.row with
            | true => match Nat.ble (o + ti.size) (sz u) with
              | true => forceL (listU u y o ti.size) fun l => k (.c (.agg l)) ⟨[c], [], []⟩
              | false => False
            | false => match Nat.blt o (sz u) with
              | true => forceD (cellU u y o) fun x => k (.c (.one (.d x))) ⟨[c], [], []⟩
              | false => False
          | false => False
        | _ => False
      | _ => False
    | none => False) : Snd P N ids o K B k := by
  have m1 : x ∈ o.op.operands := by rw [ho]; simp [Op.operands]
  split at h
  · rename_i ti hti
    obtain ⟨i, d, hok⟩ := hP.at_ hti
    split at h
    · rename_i c p hc
      split at h
      · rename_i l hl
        have key : ∀ (K' : KL) (B' : BL), (∀ x, x ∈ o.op.operands → opv K' x = opv K x) → (∀ d, d ∈ [c] → lookB B' d = lookB B d) → ∀ (C : Ctx) (ρ : Nat → Pl) (F : Nat → Nat → Prop) (a : Act) (w : World), Mem ids C B' ρ F w → Slots K' ρ (Imm C B' F w) a w →
            a.eval x = .pointer (some ⟨(ρ c).blk, p, none⟩) ∧ ∃ vs T, w.heap[(ρ c).blk]? = some (.cells (List.toArray vs) T (0, 0)) ∧ DenL ρ (Imm C B' F w) w l vs := fun K' B' h1 h2 C ρ F a w hM hS => by
          have hh := hM.holds c _ ((h2 c (by simp)).trans hl)
          exact ⟨hS.ptr ((h1 x m1).trans hc), hh.2⟩
        split at h
        · rename_i hr
          split at h
          · rename_i hle
            have hle := Nat.le_of_ble_eq_true hle
            rw [forceL_eq] at h
            refine Snd.of h <| OpOK.val fun K' B' h1 h2 C ρ F a w hM hS => ?_
            obtain ⟨e1, vs, T', hb, hd⟩ := key K' B' h1 h2 C ρ F a w hM hS
            have hd2 := DenL.tk ti.size _ _ (DenL.dp p _ _ hd)
            refine ⟨_, exec_loadn (cs := (vs.drop p).take ti.size) ho e1 hok.und (hok.row.trans hr) hok.info ?_ (fun j u hj => ?_), _, rfl, hd2⟩
            · rw [DenL.length _ _ hd2, List.length_take, List.length_drop, hok.size]
              omega
            · rw [List.getElem?_take] at hj
              split at hj
              · rw [List.getElem?_drop] at hj
                exact cell_of hb hj
              · cases hj
          · exact h.elim
        · rename_i hr
          split at h
          · rename_i s hs
            rw [forceS_eq] at h
            refine Snd.of h <| OpOK.val fun K' B' h1 h2 C ρ F a w hM hS => ?_
            obtain ⟨e1, vs, T', hb, hd⟩ := key K' B' h1 h2 C ρ F a w hM hS
            obtain ⟨v, hv, hd2⟩ := DenL.get _ _ hd p s hs
            exact ⟨v, exec_load1 ho e1 hok.und (hok.row.trans hr) (cell_of hb hv), hd2⟩
          · exact h.elim
      · exact h.elim
    · rename_i u y p hc
      split at h
      · rename_i hr
        split at h
        · rename_i hle
          rw [forceL_eq] at h
          refine Snd.of h <| OpOK.one hc m1 fun K' ρ I a w hS e1 => ?_
          obtain ⟨b, q, e, _, hy⟩ := hS.ev e1
          exact (load_el ho hok e hy).1 hr (Nat.le_of_ble_eq_true hle)
        · exact h.elim
      · rename_i hr
        split at h
        · rename_i hlt
          rw [forceD_eq] at h
          refine Snd.of h <| OpOK.one hc m1 fun K' ρ I a w hS e1 => ?_
          obtain ⟨b, q, e, _, hy⟩ := hS.ev e1
          exact (load_el ho hok e hy).2 hr (by simpa [Nat.blt_eq] using hlt)
        · exact h.elim
    · rename_i c s j p hc
      split at h
      · rename_i e u xs hl
        split at h
        · rename_i hs
          have hs := Nat.eq_of_beq_eq_true hs
          subst hs
          obtain ⟨y, hy, h⟩ := h
          have key : ∀ (K' : KL) (B' : BL), (∀ x, x ∈ o.op.operands → opv K' x = opv K x) → (∀ d, d ∈ [c] → lookB B' d = lookB B d) → ∀ (C : Ctx) (ρ : Nat → Pl) (F : Nat → Nat → Prop) (a : Act) (w : World), Mem ids C B' ρ F w → Slots K' ρ (Imm C B' F w) a w →
              a.eval x = .pointer (some ⟨(ρ c).blk, j * sz u + p, none⟩) ∧ DenU (Imm C B' F w) w u y (fun i => w.cell? ⟨(ρ c).blk, j * sz u + i, none⟩) := fun K' B' h1 h2 C ρ F a w hM hS =>
            ⟨hS.rp ((h1 x m1).trans hc), row_at (hM.holds c _ ((h2 c (by simp)).trans hl)) hy⟩
          split at h
          · rename_i hr
            split at h
            · rename_i hle
              rw [forceL_eq] at h
              refine Snd.of h <| OpOK.val fun K' B' h1 h2 C ρ F a w hM hS => ?_
              obtain ⟨e1, e2⟩ := key K' B' h1 h2 C ρ F a w hM hS
              exact (load_el ho hok e1 e2).1 hr (Nat.le_of_ble_eq_true hle)
            · exact h.elim
          · rename_i hr
            split at h
            · rename_i hlt
              rw [forceD_eq] at h
              refine Snd.of h <| OpOK.val fun K' B' h1 h2 C ρ F a w hM hS => ?_
              obtain ⟨e1, e2⟩ := key K' B' h1 h2 C ρ F a w hM hS
              exact (load_el ho hok e1 e2).2 hr (by simpa [Nat.blt_eq] using hlt)
            · exact h.elim
        · exact h.elim
      · exact h.elim
    · exact h.elim
  · exact h.elim
end
end Go.Proofs.Ythghcdddambaeaa
