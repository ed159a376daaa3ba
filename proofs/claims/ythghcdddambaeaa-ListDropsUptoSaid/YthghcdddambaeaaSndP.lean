/-
  Soundness of the conditions: stores, literals, slices, append.
-/
import Derived.Test.YthghcdddambaeaaSndO
import Derived.Great.BuildSlice
import Derived.Laws.Small
set_option linter.unusedVariables false
set_option linter.unusedSimpArgs false
namespace Go.Proofs.Ythghcdddambaeaa
open Go.RowKit

section
variable {ρ : Nat → Pl} {I : Nat → Prop} {w : World}
theorem DenU.wf : ∀ (u : U) (x : El u) (c : Nat → Option Value), DenU I w u x c → WfU u x := by
  intro u
  induction u with
  | pr u v ih1 ih2 => exact fun x c h => ⟨ih1 _ _ h.1, ih2 _ _ h.2⟩
  | arr n u ih =>
    refine fun x c h => ⟨h.1, fun y hy => ?_⟩
    obtain ⟨i, hi⟩ := List.getElem?_of_mem (α := El u) hy
    exact ih _ _ (h.2 i y hi)
  | _ => exact fun x c h => trivial
theorem DenU.one (u : U) (x : El u) (c : Nat → Option Value) (h : DenU I w u x c) (j : Nat) (hj : j < sz u) : ∃ v, c j = some v ∧ v.oneCell' = true := by
  obtain ⟨v, h1, h2⟩ := DenU.cell u x c j h hj
  exact ⟨v, h1, ok_one (ρ := fun _ => ⟨0, none, 0, 0⟩) (s := .d (cellU u x j)) rfl h2⟩
theorem mul_lt_of {i j n s : Nat} (hi : i < n) (hj : j < s) : i * s + j < n * s := by
  have := Nat.mul_le_mul_right s hi
  rw [Nat.succ_mul] at this
  omega
/-- The cells of a slice of data. -/
theorem den_cells {u : U} {ys : List (El u)} {v : Value} (h : DenU I w (.sl u) ys (fun _ => some v)) (hI : ∀ b, I b → b < w.heap.size) :
    ∃ news, Sl I w (sz u) v ys.length news ∧ RecsU I w u ys news ∧ ∀ x ∈ news, x.oneCell' = true := by
  obtain ⟨A, cap, e, h1, h2, h3⟩ := h
  injection e with e
  subst e
  rcases Nat.eq_zero_or_pos ys.length with h0 | h0
  · have hy : ys = [] := List.eq_nil_of_length_eq_zero h0
    subst hy
    exact ⟨[], ⟨by simp, A, cap, rfl, h1, h2, fun h => absurd h (by simp)⟩, fun i x hx => by simp at hx, fun x hx => by cases hx⟩
  · obtain ⟨b, o, rfl, hb, hx⟩ := h3 h0
    have hc : ∀ i (hi : i < ys.length) j, j < sz u → ∃ v, w.cell? ⟨b, o + (i * sz u + j), none⟩ = some v ∧ v.oneCell' = true := fun i hi j hj =>
      DenU.one u _ _ (hx i ys[i] (by simp [lget, hi])) j hj
    have hn : ∀ j, j < ys.length * sz u → ∃ v, w.cell? ⟨b, o + j, none⟩ = some v ∧ v.oneCell' = true := fun j hj => by
      obtain ⟨e1, e2, e3⟩ := sz_div hj
      have := hc _ e1 _ e2
      rwa [e3] at this
    have hget : ∀ j, j < ys.length * sz u → ((List.range (ys.length * sz u)).map fun j => (w.cell? ⟨b, o + j, none⟩).getD undef)[j]? = w.cell? ⟨b, o + j, none⟩ := fun j hj => by
      obtain ⟨v, hv, _⟩ := hn j hj
      rw [List.getElem?_map, List.getElem?_range hj]
      simp [hv]
    refine ⟨(List.range (ys.length * sz u)).map fun j => (w.cell? ⟨b, o + j, none⟩).getD undef, ⟨by simp, some ⟨b, o, none⟩, cap, rfl, h1, h2, fun _ => ⟨b, o, rfl, hb, hI b hb, fun j x hj => ?_⟩⟩, fun i x hx' => ?_, fun x hx' => ?_⟩
    · have hj' := (List.getElem?_eq_some_iff.1 hj).1
      simp only [List.length_map, List.length_range] at hj'
      rwa [hget j hj'] at hj
    · have hi := (List.getElem?_eq_some_iff.1 hx').1
      have hd := hx i x hx'
      refine DenU.mk u x _ (DenU.wf u x _ hd) fun j hj => ?_
      obtain ⟨v, hv, h4⟩ := DenU.cell u x _ j hd hj
      exact ⟨v, by rw [hget _ (mul_lt_of hi hj)]; exact hv, h4⟩
    · obtain ⟨j, hj, rfl⟩ := List.mem_map.1 hx'
      obtain ⟨v, hv, h4⟩ := hn j (List.mem_range.1 hj)
      simpa [hv] using h4
theorem RecsU.app {u : U} {xs ys : List (El u)} {cs ds : List Value} (h : RecsU I w u xs cs) (h' : RecsU I w u ys ds) (hl : cs.length = xs.length * sz u) : RecsU I w u (xs ++ ys) (cs ++ ds) := fun i x hx => by
  by_cases hi : i < xs.length
  · rw [List.getElem?_append_left hi] at hx
    have hd := h i x hx
    refine DenU.mk u x _ (DenU.wf u x _ hd) fun j hj => ?_
    obtain ⟨v, hv, h4⟩ := DenU.cell u x _ j hd hj
    exact ⟨v, by rw [List.getElem?_append_left (by rw [hl]; exact mul_lt_of hi hj)]; exact hv, h4⟩
  · rw [List.getElem?_append_right (by omega)] at hx
    have hd := h' _ x hx
    refine DenU.mono (Ext.refl _ _) u x _ _ (fun j v hj => ?_) hd
    have e : i * sz u = xs.length * sz u + (i - xs.length) * sz u := by rw [← Nat.add_mul]; congr 1; omega
    rw [List.getElem?_append_right (by rw [hl, e]; omega), ← hj, hl, e]
    congr 1
    omega
theorem RecsU.nil (u : U) : RecsU I w u [] [] := fun i x hx => by simp at hx
/-- A row of the call's own is a slice of data, if nobody writes it. -/
theorem row_data {ρ : Nat → Pl} {F : Nat → Prop} {p : Pl} {e : TypeId} {u : U} {xs : List (El u)} (h : Holds ρ I F w p (.row e u xs)) {I' : Nat → Prop} (hI : ∀ b, I b → I' b) (hF : ∀ b, F b → I' b) : DenU I' w (.sl u) xs (fun _ => some p.hdr) := by
  obtain ⟨h1, h2, cs, h3, h4⟩ := h
  have h3' := h3
  rcases h3.2 with ⟨hv, h0⟩ | ⟨g, cap, cur, hv, _, hg, hl, hm, _, _⟩
  · exact ⟨none, 0, by rw [hv, h0], by omega, by decide, fun h => absurd h (by omega)⟩
  · refine ⟨some ⟨g, 0, none⟩, cap, by rw [hv], hl, hm, fun _ => ⟨g, 0, rfl, hF g ((h1 g).2 (by rw [hv]; rfl)), fun i x hx => ?_⟩⟩
    refine DenU.mono (fun b hb => ⟨hI b hb, rfl⟩) u x _ _ (fun j v hj => ?_) (h4 i x hx)
    have := h3'.cells (g := g) (by rw [hv]; rfl) _ v hj
    rwa [addr_add] at this
end

section
variable {P : Program} {tt : Tr} {N : Nat} {ids : List Nat} {o : Oper} {K : KL} {B : BL} {k : SV → Eff → Prop} {C : Ctx} {ρ : Nat → Pl} {F : Nat → Nat → Prop} {w w' : World}
theorem setRow_fr {b : Nat} {cs : Array Value} {S : Nat → Prop} (hS : S b) : Fr S w (w.setRow b cs) :=
  ⟨rfl, rfl, rfl, by simp [World.setRow], fun j _ hn => setRow_other w b j cs (fun e => hn (by rw [e]; exact hS))⟩
/-! ### stores -/
theorem anyP_and {p q : Option Prop} (h : PropO (anyP p q)) : PropO p ∧ PropO q := by
  cases p <;> cases q <;> first | exact ⟨trivial, trivial⟩ | exact ⟨trivial, h⟩ | exact ⟨h, trivial⟩ | exact h
/-- What decU yields. -/
def Dec {α : Type} (u : U) (f : List S1 → Option (α × List S1 × Option Prop)) (g : α → El u) : Prop := ∀ (ρ : Nat → Pl) (I : Nat → Prop) (w : World) (l : List S1) (x : α) (l' : List S1) (p : Option Prop), f l = some (x, l', p) → PropO p → ∀ vs, DenL ρ I w l vs →
    ∃ vs1 vs2, vs = vs1 ++ vs2 ∧ vs1.length = sz u ∧ DenU I w u (g x) (fun j => vs1[j]?) ∧ DenL ρ I w l' vs2 ∧ ∀ v ∈ vs1, v.oneCell' = true
theorem dec_int (k : IntKind) : Dec (.int k) (decInt k) (fun x => x) := by
  intro ρ I w l x l' p h hp vs hv
  unfold decInt at h
  split at h
  · rename_i k' n l
    split at h
    · rename_i hk
      have := eqK_eq hk
      subst this
      simp only [Option.some.injEq, Prod.mk.injEq] at h
      obtain ⟨rfl, rfl, rfl⟩ := h
      obtain ⟨v, r, rfl, h1, h2⟩ := hv
      have h1 : v = .int k' n := h1
      subst h1
      exact ⟨[.int k' n], r, rfl, rfl, rfl, h2, by simp [Value.oneCell']⟩
    · cases h
  · cases h
theorem dec_u8 : Dec .u8 decU8 (fun x => x) := by
  intro ρ I w l x l' p h hp vs hv
  unfold decU8 at h
  split at h
  · rename_i k' n l
    split at h
    · rename_i hk
      have := eqK_eq hk
      subst this
      simp only [Option.some.injEq, Prod.mk.injEq] at h
      obtain ⟨rfl, rfl, rfl⟩ := h
      obtain ⟨v, r, rfl, h1, h2⟩ := hv
      have h1 : v = .int .u8 n := h1
      subst h1
      have hp : 0 ≤ n ∧ n < 256 := hp
      refine ⟨[.int .u8 n], r, rfl, rfl, ?_, h2, by simp [Value.oneCell']⟩
      show some (Value.int .u8 n) = some (Value.int .u8 ((UInt8.ofNat n.toNat).toNat : Int))
      congr 2
      rw [UInt8.toNat_ofNat']
      omega
    · cases h
  · cases h
theorem dec_bool : Dec .bool decBool (fun x => x) := by
  intro ρ I w l x l' p h hp vs hv
  unfold decBool at h
  split at h
  all_goals first | (cases h; done) | skip
  all_goals
    rename_i b l
    simp only [Option.some.injEq, Prod.mk.injEq] at h
    obtain ⟨rfl, rfl, rfl⟩ := h
    obtain ⟨v, r, rfl, h1, h2⟩ := hv
    have h1 : v = .bool b := h1
    subst h1
    exact ⟨[.bool b], r, rfl, rfl, rfl, h2, by simp [Value.oneCell']⟩
theorem dec_str : Dec .str decStr (fun x => x) := by
  intro ρ I w l x l' p h hp vs hv
  unfold decStr at h
  split at h
  · rename_i s l
    simp only [Option.some.injEq, Prod.mk.injEq] at h
    obtain ⟨rfl, rfl, rfl⟩ := h
    obtain ⟨v, r, rfl, h1, h2⟩ := hv
    have h1 : v = .string ⟨s.toArray⟩ := h1
    subst h1
    exact ⟨[_], r, rfl, rfl, rfl, h2, by simp [Value.oneCell']⟩
  · cases h
theorem dec_sl (u : U) : Dec (.sl u) (decSl u) (fun x => x) := by
  intro ρ I w l x l' p h hp vs hv
  unfold decSl at h
  split at h
  · rename_i l
    simp only [Option.some.injEq, Prod.mk.injEq] at h
    obtain ⟨rfl, rfl, rfl⟩ := h
    obtain ⟨v, r, rfl, h1, h2⟩ := hv
    have h1 : v = .slice none 0 0 := h1
    subst h1
    exact ⟨[_], r, rfl, rfl, ⟨none, 0, rfl, Nat.le_refl _, by decide, fun h => absurd h (by simp)⟩, h2, by simp [Value.oneCell']⟩
  · rename_i v xs l
    split at h
    · rename_i he _
      subst he
      simp only [Option.some.injEq, Prod.mk.injEq] at h
      obtain ⟨rfl, rfl, rfl⟩ := h
      obtain ⟨v, r, rfl, h1, h2⟩ := hv
      have h1 : DenU I w (.sl _) xs (fun _ => some v) := h1
      refine ⟨[v], r, rfl, rfl, ?_, h2, ?_⟩
      · obtain ⟨A, cap, e, h3⟩ := h1
        exact ⟨A, cap, e, h3⟩
      · obtain ⟨A, cap, e, h3⟩ := h1
        injection e with e
        subst e
        simp [Value.oneCell']
    · cases h
  · cases h
theorem dec_pr {u v : U} (h1 : Dec u (decU u) (fun x => x)) (h2 : Dec v (decU v) (fun x => x)) : Dec (.pr u v) (decU (.pr u v)) (fun x => x) := by
  intro ρ I w l x l' p h hp vs hv
  unfold decU at h
  cases e1 : decU u l with
  | none => simp only [e1] at h; cases h
  | some t =>
    obtain ⟨y, l1, p1⟩ := t
    simp only [e1] at h
    cases e2 : decU v l1 with
    | none => simp only [e2] at h; cases h
    | some t =>
      obtain ⟨z, l2, p2⟩ := t
      simp only [e2, Option.some.injEq, Prod.mk.injEq] at h
      obtain ⟨rfl, rfl, rfl⟩ := h
      obtain ⟨q1, q2⟩ := anyP_and hp
      obtain ⟨vs1, r1, rfl, g1, g2, g3, g4⟩ := h1 ρ I w l y l1 p1 e1 q1 vs hv
      obtain ⟨vs2, r2, rfl, k1, k2, k3, k4⟩ := h2 ρ I w l1 z _ p2 e2 q2 r1 g3
      refine ⟨vs1 ++ vs2, r2, by simp, by simp [sz, g1, k1], ⟨?_, ?_⟩, k3, fun x hx => (List.mem_append.1 hx).elim (g4 x) (k4 x)⟩
      · refine DenU.mk u y _ (DenU.wf u y _ g2) fun j hj => ?_
        obtain ⟨x, hx, hd⟩ := DenU.cell u y _ j g2 hj
        exact ⟨x, by rw [List.getElem?_append_left (by omega)]; exact hx, hd⟩
      · refine DenU.mono (Ext.refl _ _) v z _ _ (fun j x hj => ?_) k2
        show (vs1 ++ vs2)[sz u + j]? = some x
        rw [List.getElem?_append_right (by omega), show sz u + j - vs1.length = j by omega]
        exact hj
theorem dec_all : ∀ u : U, Dec u (decU u) (fun x => x)
  | .int k => dec_int k
  | .u8 => dec_u8
  | .bool => dec_bool
  | .str => dec_str
  | .sl u => dec_sl u
  | .pr u v => dec_pr (dec_all u) (dec_all v)
  | .arr n u => fun ρ I w l x l' p h => by unfold decU at h; cases h
theorem decs_sound {ρ : Nat → Pl} {I : Nat → Prop} {w : World} (u : U) : ∀ (n : Nat) (l : List S1) (xs : List (El u)) (p : Option Prop), decs u n l = some (xs, p) → PropO p → ∀ vs, DenL ρ I w l vs → xs.length = n ∧ vs.length = n * sz u ∧ RecsU I w u xs vs ∧ ∀ v ∈ vs, v.oneCell' = true
  | 0, l, xs, p, h, hp, vs, hv => by
    unfold decs at h
    split at h
    · simp only [Option.some.injEq, Prod.mk.injEq] at h
      obtain ⟨rfl, rfl⟩ := h
      rw [show vs = [] from hv]
      exact ⟨rfl, by simp, RecsU.nil u, by simp⟩
    · cases h
    · rename_i e; cases e
  | n + 1, l, xs, p, h, hp, vs, hv => by
    unfold decs at h
    cases e1 : decU u l with
    | none => simp only [e1] at h; cases h
    | some t =>
      obtain ⟨y, l1, p1⟩ := t
      simp only [e1] at h
      cases e2 : decs u n l1 with
      | none => simp only [e2] at h; cases h
      | some t =>
        obtain ⟨ys, p2⟩ := t
        simp only [e2, Option.some.injEq, Prod.mk.injEq] at h
        obtain ⟨rfl, rfl⟩ := h
        obtain ⟨q1, q2⟩ := anyP_and hp
        obtain ⟨vs1, r1, rfl, g1, g2, g3, g4⟩ := dec_all u ρ I w l y l1 p1 e1 q1 vs hv
        obtain ⟨k1, k2, k3, k4⟩ := decs_sound u n l1 ys p2 e2 q2 r1 g3
        refine ⟨by simp [k1], by simp [g1, k2, Nat.succ_mul, Nat.add_comm], ?_, fun x hx => (List.mem_append.1 hx).elim (g4 x) (k4 x)⟩
        have : RecsU I w u [y] vs1 := fun i x hx => by
          match i with
          | 0 =>
            simp only [List.getElem?_cons_zero, Option.some.injEq] at hx
            subst hx
            exact DenU.mono (Ext.refl _ _) u y _ _ (fun j v hj => by simpa using hj) g2
          | i + 1 => simp at hx
        exact RecsU.app this k3 (by simpa using g1)
theorem snd_store (hP : TblOK P tt) {T : TypeId} {x v : Operand} (ho : o.op = .store T x v) (h : match tt.find T with
    | some ti => match opv K x with
      | .c (.one (.ptr c o)) => match lookB B c with
        | some (.cells l) => match cellsV (opv K v) with
          | some cs => match Nat.beq cs.length ti.size, Nat.ble (o + cs.length) l.length with
            | true, true => forceL (spl l o cs) fun l => k .undef ⟨[c], [], [(c, some (.cells l))]⟩
            | _, _ => False
          | none => False
        | _ => False
      | .c (.one (.rp c s i o)) => match lookB B c with
        | some (.row e u xs) => match Nat.beq (sz u) 1, Nat.beq s 1, Nat.beq o 0, Nat.beq ti.size 1, opv K v with
          | true, true, true, true, .c (.one sv) => match decU u [sv] with
            | some (y, [], p) => (PropO p ∧ i < xs.length) ∧ k .undef ⟨[c], [], [(c, some (.row e u (xs.set i y)))]⟩
            | _ => False
          | _, _, _, _, _ => False
        | _ => False
      | _ => False
    | none => False) : Snd P N ids o K B k := by
  have m1 : x ∈ o.op.operands := by rw [ho]; simp [Op.operands]
  have m2 : v ∈ o.op.operands := by rw [ho]; simp [Op.operands]
  split at h
  · rename_i ti hti
    obtain ⟨inf, d, hok⟩ := hP.at_ hti
    split at h
    · rename_i c p hc
      split at h
      · rename_i l hl
        split at h
        · rename_i cs hcs
          split at h
          · rename_i h1 h2
            have h1 := Nat.eq_of_beq_eq_true h1
            have h2 := Nat.le_of_ble_eq_true h2
            rw [forceL_eq] at h
            refine Snd.of h <| OpOK.turn hl fun K' B' e1 C ρ F a w hM hS hl' => ?_
            obtain ⟨hF, vs, T', hb, hd⟩ := hM.holds c _ hl'
            have hv := hS.get v
            rw [e1 v m2] at hv
            obtain ⟨us, hu1, hu2, hu3⟩ := cells_of hcs hv
            have hlen := DenL.length _ _ hu2
            have hlen2 := DenL.length _ _ hd
            refine ⟨_, exec_store ho (hS.ptr ((e1 x m1).trans hc)) hu1 hok.info (by rw [hlen, h1]; exact hok.size) hb (by omega) hu3, setRow_fr ((hF _).2 rfl), fun I he => ⟨hF, _, T', setRow_heap w _ _ _ T' _ hb, ?_⟩⟩
            exact DenL.splice (DenL.mono he _ _ (fun _ _ => rfl) hd) (DenL.mono he _ _ (fun _ _ => rfl) hu2)
          · exact h.elim
        · exact h.elim
      · exact h.elim
    · rename_i c s i p hc
      split at h
      · rename_i e u xs hl
        split at h
        · rename_i sv s1 s2 s3 s4 hsv
          split at h
          · rename_i y q hdec
            have s1 := Nat.eq_of_beq_eq_true s1
            have s2 := Nat.eq_of_beq_eq_true s2
            have s3 := Nat.eq_of_beq_eq_true s3
            subst s2 s3
            obtain ⟨⟨hq, hi⟩, h⟩ := h
            refine Snd.of h <| OpOK.turn hl fun K' B' e1 C ρ F a w hM hS hl' => ?_
            obtain ⟨hF, hblk, cs, hown, hrec⟩ := hM.holds c _ hl'
            have hv := hS.get v
            rw [e1 v m2, hsv] at hv
            have hxp := hS.rp ((e1 x m1).trans hc)
            obtain ⟨vs1, vs2, e4, g1, g2, g3, g4⟩ := dec_all u ρ _ w [sv] y [] q hdec hq [a.eval v] ⟨_, [], rfl, hv, rfl⟩
            have hlen : vs1.length = 1 := by rw [g1, s1]
            obtain rfl : vs1 = [a.eval v] := by
              match vs1, hlen with
              | [z], _ => simp at e4; rw [e4.1]
            have hone := g4 (a.eval v) (by simp)
            have hcells : (a.eval v).cells = List.toArray [a.eval v] := by
              cases hx : a.eval v <;> first | rfl | (rw [hx] at hone; simp [Value.oneCell'] at hone)
            have hown' := hown
            obtain ⟨hl1, hown⟩ := hown
            rcases hown with ⟨_, h0⟩ | ⟨g, cap, cur, hv', _, hg, hcap, hm, hsz, ht⟩
            · omega
            · have hbg : g = (ρ c).blk := hblk g (by rw [hv']; rfl)
              subst hbg
              rw [s1, Nat.mul_one] at hsz ht hl1
              have hgt : w.heap[(ρ c).blk]? = some (.cells (List.toArray cur.toList) e (0, 0)) := by simpa using hg
              have hfit : i * 1 + 0 + [a.eval v].length ≤ cur.toList.length := by simp; omega
              have hex := exec_store (P := P) (ev := a.eval) (w := w) ho hxp hcells hok.info (by rw [hok.size, Nat.eq_of_beq_eq_true s4]; rfl) hgt hfit (by simpa using hone)
              refine ⟨_, hex, setRow_fr ((hF _).2 (by rw [hv']; rfl)), fun I he => ?_⟩
              have hnew := setRow_heap w (ρ c).blk cur (List.take (i * 1 + 0) cur.toList ++ [a.eval v] ++ List.drop (i * 1 + 0 + [a.eval v].length) cur.toList).toArray e (0, 0) hg
              have hset : (List.take (i * 1 + 0) cur.toList ++ [a.eval v] ++ List.drop (i * 1 + 0 + [a.eval v].length) cur.toList) = cur.toList.set i (a.eval v) := by
                rw [List.set_eq_take_append_cons_drop, if_pos (by simp; omega)]
                simp
              rw [hset] at hnew
              refine ⟨hF, hblk, cs.set i (a.eval v), ⟨by simp [hl1, s1], .inr ⟨(ρ c).blk, cap, _, by rw [hv']; simp, Nat.zero_le _, by rw [hset]; exact hnew, by simpa using hcap, hm, by simp [hsz, s1], ?_⟩⟩, fun j z hz => ?_⟩
              · rw [← ht]
                simp [s1, List.take_set]
              · by_cases hji : i = j
                · subst hji
                  rw [List.getElem?_set_self hi] at hz
                  injection hz with hz
                  subst hz
                  refine DenU.mono he u y _ _ (fun q x hx => ?_) g2
                  match q with
                  | 0 =>
                    rw [s1, Nat.mul_one, Nat.add_zero, List.getElem?_set_self (by omega)]
                    simpa using hx
                  | q + 1 => simp at hx
                · rw [List.getElem?_set_ne hji] at hz
                  have hd := hrec j z hz
                  refine DenU.mk u z _ (DenU.wf u z _ hd) fun q hq => ?_
                  obtain ⟨x, hx, hx2⟩ := DenU.cell u z _ q hd hq
                  refine ⟨x, ?_, Den.mono he _ _ hx2⟩
                  rw [s1] at hq ⊢
                  rw [s1] at hx
                  rw [List.getElem?_set_ne (by omega)]
                  exact hx
          · exact h.elim
        · exact h.elim
      · exact h.elim
    · exact h.elim
  · exact h.elim
end
end Go.Proofs.Ythghcdddambaeaa
