/-
  Soundness of the conditions: make, append, calls; all operations.
-/
import Derived.Test.YthghcdddambaeaaSndS
set_option linter.unusedVariables false
set_option linter.unusedSimpArgs false
namespace Go.Proofs.Ythghcdddambaeaa
open Go.RowKit

section
variable {P : Program} {tt : Tr} {N : Nat} {ids : List Nat} {o : Oper} {K : KL} {B : BL} {k : SV → Eff → Prop}
theorem run_make_u8 {w : World} (t e : TypeId) (ht : P.underlying t = some (.slice e)) {i : TypeInfo} (hi : P.info? e = some i) {z : Value} (hz : i.zero = some z) (hzc : z.cells = #[.int .u8 0]) (hs : i.size = 1) (hb : i.bytes = 1) (n : Nat) (hn : n ≤ 4294967296) :
    (Instr.makeSlice t (.int .i64 (n : Int)) (.int .i64 (n : Int))).run P w = .ok (.slice (some ⟨w.heap.size, 0, none⟩) n n) (w.alloc (.cells (List.replicate n (.int .u8 0)).toArray e)) := by
  have h := run_make (P := P) w t e i _ ht hi hz .i64 .i64 (n : Int) (n : Int) (by omega) (by omega) (by rw [hb]; omega) (by omega)
  rw [h, hs, hzc]
  simp only [Int.toNat_natCast, Nat.mul_one]
  congr 3
  simp [madeCells]
  apply Array.ext
  · simp
  · intro i h1 h2
    simp [Nat.mod_one]
theorem zero_u8 {ti : TI} {T : Nat} {i : TypeInfo} {d : TypeDesc} (hok : TIok P T ti i d) (hz : ti.zero = [.d (.int .u8 0)]) : ∃ z, i.zero = some z ∧ z.cells = #[.int .u8 0] := by
  obtain ⟨z, h1, h2⟩ := hok.zero
  refine ⟨z, h1, ?_⟩
  rw [hz] at h2
  have : z.cells.toList = [.int .u8 0] := by
    match hc : z.cells.toList, h2 with
    | [v], h2 =>
      simp only [zeroL, Bool.and_true] at h2
      have := (zeroS_den (ρ := fun _ => ⟨0, none, 0, 0⟩) (I := fun _ => False) (w := default) h2).1
      rw [show v = _ from this]
    | [], h2 => simp [zeroL] at h2
    | _ :: _ :: _, h2 => simp [zeroL] at h2
  exact Array.toList_inj.1 this
theorem snd_make (hP : TblOK P tt) {T : TypeId} {x y : Operand} (ho : o.op = .makeSlice T x y) (h : match elemOf tt T, opv K x, opv K y, o.dst with
    | some (e, te), .c (.one (.d (.int .i64 n))), .c (.one (.d (.int .i64 m))), some d => match isU8 tt e with
      | true => (n = m ∧ 0 ≤ n ∧ n ≤ 4294967296) ∧ freshB ids K B d = true ∧ k (.c (.one (.own d))) ⟨[], [d], [(d, some (.row e .u8 (List.replicate n.toNat (0 : UInt8))))]⟩
      | false => False
    | _, _, _, _ => False) : Snd P N ids o K B k := by
  have m1 : x ∈ o.op.operands := by rw [ho]; simp [Op.operands]
  have m2 : y ∈ o.op.operands := by rw [ho]; simp [Op.operands]
  split at h
  · rename_i e te n m d he hx hy hd
    obtain ⟨hu, inf, ds, hok⟩ := elem_ok hP he
    split at h
    · rename_i hu8
      obtain ⟨hu8, ti, i2, d2, hok2, hz2, hs2, hb2⟩ := isU8_ok hP hu8
      obtain ⟨z, hz, hzc⟩ := zero_u8 hok2 hz2
      obtain ⟨⟨rfl, h0, h1⟩, hfr, h⟩ := h
      refine Snd.nw h hfr <| OpOK.make (fun d h => has_own h) fun K' B' g1 g2 C ρ F a w hM hS hn => ?_
      have hx' := hS.int ((g1 x m1).trans hx)
      have hy' := hS.int ((g1 y m2).trans hy)
      have hrun := run_make_u8 (P := P) (w := w) T e hu hok2.info hz hzc (hok2.size.trans hs2) (hok2.bytes.trans hb2) n.toNat (by omega)
      rw [show ((n.toNat : Nat) : Int) = n by omega] at hrun
      refine ⟨.slice (some ⟨w.heap.size, 0, none⟩) n.toNat n.toNat, w.alloc (.cells (List.replicate n.toNat (.int .u8 0)).toArray e), ⟨w.heap.size, some ⟨w.heap.size, 0, none⟩, n.toNat, n.toNat⟩, fun b => b = w.heap.size, ?_, alloc_below w _, fun b hb => by subst hb; exact ⟨Nat.le_refl _, by simp⟩, fun I he hb => ⟨⟨?_, ?_, List.replicate n.toNat (.int .u8 0), ?_, ?_⟩, ?_⟩⟩
      · simp only [execOp, ho, Sem.run_bind, hx', hy', hrun, Result.andThen_ok, Sem.run_pure]
      · intro b
        simp [Pl.hdr, Value.ownBlock, eq_comm]
      · intro b hb
        simp [Pl.hdr, Value.ownBlock] at hb
        exact hb.symm
      · have := ownsRow_new w e 1 n.toNat (List.replicate n.toNat (.int .u8 0)) (by simp) (by simp only [maxLen]; omega)
        have e1 : List.length (α := El .u8) (List.replicate n.toNat (0 : UInt8)) = n.toNat := List.length_replicate
        rw [e1]
        exact this
      · intro i z hz
        obtain ⟨hi, hz'⟩ := List.getElem?_eq_some_iff.1 hz
        have hz2 : z = (0 : UInt8) := by rw [← hz']; exact List.getElem_replicate ..
        have hi : i < n.toNat := by
          have e1 : List.length (α := El .u8) (List.replicate n.toNat (0 : UInt8)) = n.toNat := List.length_replicate
          rw [e1] at hi
          exact hi
        subst hz2
        show (List.replicate n.toNat (Value.int .u8 0))[i * 1 + 0]? = some (Value.int .u8 ((0 : UInt8).toNat : Int))
        rw [Nat.mul_one, Nat.add_zero, List.getElem?_replicate, if_pos hi]
        rfl
      · simp only [DenV, DenC, DenS, upd_same, Pl.hdr]
    · exact h.elim
  · exact h.elim
/-! ### append -/
theorem hdr_of {w : World} {e s n : Nat} {v : Value} {cs : List Value} (h : w.ownsRow 0 e s v n cs) : ∃ pl : Pl, pl.hdr = v ∧ ∀ b, v.ownBlock = some b → b = pl.blk := by
  rcases h.2 with ⟨rfl, _⟩ | ⟨g, cap, cur, rfl, _⟩
  · exact ⟨⟨0, none, 0, 0⟩, rfl, fun b hb => by cases hb⟩
  · exact ⟨⟨g, some ⟨g, 0, none⟩, n, cap⟩, rfl, fun b hb => by simp [Value.ownBlock] at hb; exact hb.symm⟩
theorem exec_append (hP : TblOK P tt) {T : TypeId} {x y : Operand} {c : Call} {e : Nat} {te : TI} {u : U} (ho : o.op = .call c) (hc1 : c.callee = .builtin .append) (hc2 : c.args.toList = [x, y]) (hc3 : c.argTypes.toList = [T, T]) (he : elemOf tt T = some (e, te)) (hu : te.u = some u)
    {a : Act} {w : World} {v : Value} {n : Nat} {cs : List Value} {I : Nat → Prop} {ys : List (El u)} (hx : a.eval x = v) (hown : w.ownsRow 0 e (sz u) v n cs) (hy : DenU I w (.sl u) ys (fun _ => some (a.eval y))) (hI : ∀ b, I b → b < w.heap.size) (hn : n + ys.length ≤ 4294967296) :
    ∃ v' w' news, (execOp a.eval o).run P w = .ok (.value v') w' ∧ w'.ownsRow 0 e (sz u) v' (n + ys.length) (cs ++ news) ∧ RecsU I w u ys news ∧ w.grownBy w' v.ownBlock ∧ (v'.ownBlock = v.ownBlock ∨ v'.ownBlock = some w.heap.size) := by
  obtain ⟨hT, inf, ds, hok⟩ := elem_ok hP he
  obtain ⟨z, hz, hzl⟩ := hok.zero
  obtain ⟨news, h1, h2, h3⟩ := den_cells hy hI
  have hsz : sz u = inf.size := (hok.u u hu).trans hok.size.symm
  have hzs : z.cells.size = inf.size := by
    have h1 := DenL.length _ _ (zeroL_den (ρ := fun _ => ⟨0, none, 0, 0⟩) (I := fun _ => False) (w := w) _ _ hzl).1
    simp at h1
    rw [h1, hok.zlen, hok.size]
  have hpos : 0 < inf.size := by have := hok.pos; have := hok.size; omega
  have hby : (n + ys.length) * inf.bytes ≤ 140737488355328 := by
    have h1 : inf.bytes ≤ 32768 := by rw [hok.bytes]; exact hok.small
    exact Nat.le_trans (Nat.mul_le_mul hn h1) (by decide)
  obtain ⟨v', w', hrun, g1, g2, g3⟩ := run_append_sl (P := P) w 0 T o.type e inf z (sz u) inf.bytes hT hok.info hz hsz.symm rfl (by rw [hzs, hsz]) (by rw [hsz]; exact hpos) v n cs hown I (a.eval y) ys.length news h1 h3 (by simp only [maxLen]; omega) hby (Nat.zero_le _)
  refine ⟨v', w', news, ?_, g1, h2, g2, g3⟩
  have hargs : c.args = #[x, y] := Array.toList_inj.1 hc2
  have hts : c.argTypes = #[T, T] := Array.toList_inj.1 hc3
  obtain ⟨cal, args, ts⟩ := c
  simp only at hc1 hargs hts
  subst hc1 hargs hts
  unfold execOp
  simp only [ho, resolve, invoke, builtin, Sem.run_bind, Sem.run_pure, Result.andThen_ok, List.map_toArray, List.map_cons, List.map_nil, hx, hrun]
/-- A block that another one takes the place of. -/
theorem Mem.move {C : Ctx} {ρ : Nat → Pl} {F : Nat → Nat → Prop} {w w' : World} (h : Mem ids C B ρ F w) {c d : Nat} {ch0 ch : Ch} (hc : lookB B c = some ch0) (hf : freshB ids K B d = true) (hfr : Fr (F c) w w') (pl : Pl) (G : Nat → Prop) (hG : ∀ b, G b → (F c b ∨ w.heap.size ≤ b) ∧ b < w'.heap.size)
    (hH : ∀ I, Ext (Imm C B F w) w I w' → (∀ b, I b → b < w'.heap.size ∧ ¬ G b) → Holds (upd ρ d pl) I G w' pl ch) :
    Mem ids C ((d, ch) :: dropB B c) (upd ρ d pl) (upd F d G) w' ∧ Ext (Imm C B F w) w (Imm C ((d, ch) :: dropB B c) (upd F d G) w') w' := by
  obtain ⟨f1, f2, f3, f4⟩ := fresh_of hf
  have hdc : d ≠ c := fun e => by subst e; rw [f2] at hc; cases hc
  refine h.step (fun i => i = d ∨ i = c) (fun i => i = d) (hfr.mono fun b _ hb => ⟨c, ch0, hc, .inr rfl, hb⟩) ?_ (fun i hi => upd_other _ _ hi) (fun i hi => upd_other _ _ (fun e => hi (.inl e))) (fun i hi e => f4 (e ▸ hi)) (fun _ h => .inl h) ?_ ?_ ?_ ?_
  · intro i ch' hi hne
    rw [lookB_cons, if_neg (fun e => hne (.inl e.symm)), lookB_dropB] at hi
    split at hi
    · cases hi
    · exact hi
  · rintro i ch' hi _ j he rfl
    rw [f3 i ch' hi] at he
    cases he
  · rintro i ch' hi hM he
    rw [lookB_cons] at hi
    split at hi
    · rename_i e
      subst e
      injection hi with hi
      subst hi
      rw [upd_same, upd_same]
      exact hH _ he fun b hb' => ⟨hb'.1, fun hg => hb'.2.2 d ch (by rw [lookB_cons, if_pos rfl]) (by rw [upd_same]; exact hg)⟩
    · rename_i e
      rcases hM with rfl | rfl
      · exact absurd rfl e
      · rw [lookB_dropB, if_pos rfl] at hi; cases hi
  · rintro i ch' hi hM b hg
    rcases hM with rfl | rfl
    · rw [upd_same] at hg
      obtain ⟨h1, h2⟩ := hG b hg
      exact ⟨h2, h1.imp (fun h => ⟨c, ch0, hc, .inr rfl, h⟩) id⟩
    · rw [lookB_cons, if_neg hdc, lookB_dropB, if_pos rfl] at hi; cases hi
  · rintro i j ch1 ch2 b hi hj hMi hMj hne
    have q : ∀ i ch', lookB ((d, ch) :: dropB B c) i = some ch' → (i = d ∨ i = c) → i = d := fun i ch' hi hM => by
      rcases hM with rfl | rfl
      · rfl
      · rw [lookB_cons, if_neg hdc, lookB_dropB, if_pos rfl] at hi; cases hi
    exact absurd ((q i ch1 hi hMi).trans (q j ch2 hj hMj).symm) hne
theorem grown_fr {w w' : World} {r : Option Nat} {S : Nat → Prop} (h : w.grownBy w' r) (hS : ∀ b, r = some b → S b) : Fr S w w' := fr_grown h hS
theorem snd_append (hP : TblOK P tt) {T : TypeId} {x y : Operand} {c : Call} (ho : o.op = .call c) (hc1 : c.callee = .builtin .append) (hc2 : c.args.toList = [x, y]) (hc3 : c.argTypes.toList = [T, T])
    (h : vcApp tt T (opv K x) (opv K y) o.dst ids K B k) : Snd P N ids o K B k := by
  have mem : ∀ z ∈ [x, y], z ∈ o.op.operands := fun z hz => by
    rw [ho]
    simp only [Op.operands, Call.operands, Array.mem_append]
    exact .inr (Array.mem_toList_iff.1 (by rw [hc2]; exact hz))
  have m1 := mem x (by simp)
  have m2 := mem y (by simp)
  unfold vcApp at h
  split at h
  · rename_i e te d he hd
    split at h
    · rename_i u v ys hu hy
      split at h
      · rename_i heq _
        subst heq
        split at h
        · rename_i hx
          obtain ⟨hlen, hfr, h⟩ := h
          refine Snd.nw h hfr <| OpOK.make (fun d h => has_own h) fun K' B' g1 g2 C ρ F a w hM hS hn => ?_
          obtain ⟨v', w', news, hrun, k1, k2, k3, k4⟩ := exec_append hP ho hc1 hc2 hc3 he hu (hS.nils ((g1 x m1).trans hx)) (World.ownsRow_nil w 0 e (sz v)) (hS.lst ((g1 y m2).trans hy)) (fun b hb => hb.1) (by omega)
          obtain ⟨pl, hpl, hblk⟩ := hdr_of k1
          have hb : Below w.heap.size w w' := ⟨k3.os, k3.tape, k3.output, k3.size, fun b hb => k3.block b hb (by simp [Value.ownBlock])⟩
          have hob : ∀ b, v'.ownBlock = some b → w.heap.size ≤ b ∧ b < w'.heap.size := fun b hb' => by
            have := k1.lt b hb'
            rcases k4 with k4 | k4
            · rw [k4] at hb'; cases hb'
            · rw [k4] at hb'; injection hb' with hb'; omega
          refine ⟨v', w', pl, fun b => v'.ownBlock = some b, hrun, hb, hob, fun I he' hI => ⟨⟨fun b => by rw [hpl], fun b hb => hblk b (by rwa [hpl] at hb), news, ?_, ?_⟩, ?_⟩⟩
          · rw [hpl]
            have := k1
            rw [Nat.zero_add, List.nil_append] at this
            exact this
          · exact RecsU.mono he' k2
          · simp only [DenV, DenC, DenS, upd_same, hpl]
        · rename_i cc hx
          split at h
          · rename_i e' u' xs hl
            split at h
            · rename_i heq2 hee _
              have hee := Nat.eq_of_beq_eq_true hee
              subst heq2 hee
              obtain ⟨hlen, hfr, h⟩ := h
              refine Snd.nw h hfr ?_
              rintro K' B' g1 g2 g3 C a w ⟨hnn, hdd, ρ, F, hM, hS⟩ hlt Kn Q hK
              have hl' : lookB B' cc = _ := (g2 cc (by simp)).trans hl
              have hf := g3 d (by simp)
              have hfresh := fresh_of hf
              have hh := hM.holds cc _ hl'
              obtain ⟨hF, hbk, cs, hown, hrec⟩ := hh
              obtain ⟨v', w', news, hrun, k1, k2, k3, k4⟩ := exec_append hP ho hc1 hc2 hc3 he hu (hS.own ((g1 x m1).trans hx)) hown (hS.lst ((g1 y m2).trans hy)) (fun b hb => hb.1) (by have : (castL rfl xs).length = xs.length := rfl; omega)
              obtain ⟨pl, hpl, hblk⟩ := hdr_of k1
              obtain ⟨hM', he'⟩ := hM.move (K := K') (ch := .row e' u' (castL rfl xs ++ castL rfl ys)) hl' hf (grown_fr k3 fun b hb => (hF b).2 hb) pl (fun b => v'.ownBlock = some b) (fun b hb => ⟨by
                  rcases k4 with k4 | k4
                  · exact .inl ((hF b).2 (k4.symm.trans hb))
                  · rw [k4] at hb; injection hb with hb; exact .inr (by omega), (k1.lt b hb).2⟩)
                (fun I he' hI => ⟨fun b => by rw [hpl], fun b hb => hblk b (by rwa [hpl] at hb), cs ++ news, by rw [hpl]; simpa [castL] using k1, RecsU.app (RecsU.mono he' hrec) (RecsU.mono he' k2) hown.1⟩)
              unfold Oper.wp
              rw [hrun, Oper.upon_value]
              exact hK _ _ ⟨put_size.trans hnn, put_defers.trans hdd, _, _, hM', (hS.mono he' fun s i hi => upd_other _ _ (fun e => by subst e; rw [hfresh.1 s] at hi; cases hi)).putO (fun e he => by rw [hnn]; exact hlt e he) (by simp only [DenV, DenC, DenS, upd_same, hpl])⟩
            · exact h.elim
          · exact h.elim
        · exact h.elim
      · exact h.elim
    · exact h.elim
  · exact h.elim
end
end Go.Proofs.Ythghcdddambaeaa
