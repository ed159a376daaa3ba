/-
  Soundness of the conditions: copy of bytes onto a row of the call's own.
-/
import Derived.Test.YthghcdddambaeaaSndT
set_option linter.unusedVariables false
set_option linter.unusedSimpArgs false
namespace Go.Proofs.Ythghcdddambaeaa
open Go.RowKit

section
variable {P : Program} {tt : Tr} {N : Nat} {ids : List Nat} {o : Oper} {K : KL} {B : BL} {k : SV → Eff → Prop}
theorem take_laid {α : Type} (cur ys : List α) (off N : Nat) (h : off + ys.length ≤ N) (h2 : N ≤ cur.length) : (cur.take off ++ ys ++ cur.drop (off + ys.length)).take N = (cur.take N).take off ++ ys ++ (cur.take N).drop (off + ys.length) := by
  rw [List.take_append, List.take_of_length_le (by simp; omega), List.take_take, Nat.min_eq_left (by omega), List.drop_take]
  congr 2
  simp
  omega
theorem run_copyTo {w : World} {dT sT ty e : TypeId} (hu : P.underlying dT = some (.slice e)) (hsz : (P.info? e).map (·.size) = some 1) {v : Value} {M off n dCap m : Nat} {cs ys : List Value} {dp : Option Addr} {src : Value} {D : Nat → Prop} {e' : TypeId}
    (hown : w.ownsRow 0 e' 1 v M cs) (hd : 0 < n → ∀ g cap, v = .slice (some ⟨g, 0, none⟩) M cap → M ≤ cap → dp = some ⟨g, off, none⟩) (hfit : off + n ≤ M) (hsl : Sl D w 1 src m ys) (h1 : ∀ v ∈ ys, v.oneCell' = true) :
    ∃ x w', (Builtin.copy_ #[dT, sT] ty #[.slice dp n dCap, src]).run P w = .ok x w' ∧ Fr (fun b => v.ownBlock = some b) w w' ∧ w'.ownsRow 0 e' 1 v M (cs.take off ++ ys.take n ++ cs.drop (off + (ys.take n).length)) := by
  obtain ⟨sp, sCap, rfl, hl, hpos⟩ := copy_src hsl n
  have hle : (ys.take n).length ≤ n := by rw [List.length_take]; exact Nat.min_le_left _ _
  by_cases h0 : (ys.take n).length = 0
  · refine ⟨_, w, run_copy_none (P := P) w dT sT ty e dp sp n dCap m sCap hu hsz (by rw [← hl]; exact h0), Fr.refl _ _, ?_⟩
    rw [List.eq_nil_of_length_eq_zero h0]
    simpa using hown
  · obtain ⟨ad, rfl, hsrc⟩ := hpos (by omega)
    obtain ⟨hlen, hown⟩ := hown
    rcases hown with ⟨_, hM⟩ | ⟨g, cap, cur, hv, hb, hg, hc1, hc2, hc3, hc4⟩
    · omega
    · obtain rfl := hd (by omega) g cap hv hc1
      have hcur : cur.toList.length = cap := by simpa using hc3
      rw [Nat.mul_one] at hc4 hlen
      refine ⟨_, _, run_copy_row (P := P) w dT sT ty e g off n dCap ad m sCap cur e' (ys.take n) hu hsz hg hl hsrc (by rw [← Array.length_toList]; omega) (fun v hv => h1 v (List.mem_of_mem_take hv)), setRow_fr (by rw [hv]; rfl), ?_⟩
      refine ⟨by simp only [List.length_append, List.length_take, List.length_drop, Nat.mul_one] at *; omega, .inr ⟨g, cap, _, hv, hb, setRow_heap w g _ _ e' _ hg, hc1, hc2, by simp only [List.size_toArray, List.length_append, List.length_take, List.length_drop, Nat.mul_one] at *; omega, ?_⟩⟩
      rw [Nat.mul_one]
      show List.take M (cur.toList.take off ++ ys.take n ++ cur.toList.drop (off + (ys.take n).length)) = _
      rw [take_laid _ _ _ _ (by omega) (by omega), hc4]
theorem laid_length (xs ys : List UInt8) {off n : Nat} (h : off + n ≤ xs.length) : (laid xs off n ys).length = xs.length := by
  simp only [laid, List.length_append, List.length_take, List.length_drop]
  omega
theorem laid_map (xs ys : List UInt8) (off n : Nat) : List.take off (xs.map byteV) ++ List.take n (ys.map byteV) ++ List.drop (off + (List.take n (ys.map byteV)).length) (xs.map byteV) = (laid xs off n ys).map byteV := by
  simp only [laid, List.map_append, List.map_take, List.map_drop, List.length_take, List.length_map]
theorem recs_bytes {I : Nat → Prop} {w : World} {xs : List UInt8} {cs : List Value} (h : RecsU I w .u8 xs cs) (hl : cs.length = xs.length) : cs = xs.map byteV := by
  refine List.ext_getElem? fun i => ?_
  rw [List.getElem?_map]
  cases hx : xs[i]? with
  | none =>
    have := List.getElem?_eq_none_iff.1 hx
    rw [List.getElem?_eq_none_iff.2 (by omega)]; rfl
  | some x =>
    have h2 := h i x hx
    simpa [DenU, sz, byteV] using h2
theorem bytes_recs (I : Nat → Prop) (w : World) (xs : List UInt8) : RecsU I w .u8 xs (xs.map byteV) := fun i x hx => by
  have hx : xs[i]? = some x := hx
  simp [DenU, sz, hx]
  rfl
theorem lst_sl {I : Nat → Prop} {w : World} {v : Value} {l : List UInt8} (hI : ∀ b, I b → b < w.heap.size) (h : DenU I w (.sl .u8) l (fun _ => some v)) : Sl I w 1 v l.length (l.map byteV) := by
  obtain ⟨A, cap, h0, h1, h2, h3⟩ := h
  injection h0 with h0
  refine ⟨by simp, A, cap, h0, h1, h2, fun hp => ?_⟩
  obtain ⟨b, o, hA, hb, hx⟩ := h3 hp
  refine ⟨b, o, hA, hb, hI b hb, fun j u hu => ?_⟩
  rw [List.getElem?_map] at hu
  obtain ⟨x, hx1, rfl⟩ := Option.map_eq_some_iff.1 hu
  have := hx j x hx1
  simpa [DenU, sz, byteV] using this
/-- An operation that turns one block, and yields something. -/
theorem OpOK.turnV {c : Nat} {ch0 ch : Ch} (hc : lookB B c = some ch0)
    (h : ∀ (K' : KL) (B' : BL), (∀ x, x ∈ o.op.operands → opv K' x = opv K x) → ∀ (C : Ctx) (ρ : Nat → Pl) (F : Nat → Nat → Prop) (a : Act) (w : World), Mem ids C B' ρ F w → Slots K' ρ (Imm C B' F w) a w → lookB B' c = some ch0 → ∃ x w', (execOp a.eval o).run P w = .ok (.value x) w' ∧ Fr (F c) w w' ∧
        (∀ I, Ext (Imm C B' F w) w I w' → Holds ρ I (F c) w' (ρ c) ch)) :
    OpOK P N ids o K B (.c (.one .any)) ⟨[c], [], [(c, some ch)]⟩ := by
  rintro K' B' h1 h2 - C a w ⟨hn, hd, ρ, F, hM, hS⟩ hlt Kn Q hK
  have hc' : lookB B' c = some ch0 := (h2 c (by simp)).trans hc
  obtain ⟨x, w', hx, hfr, hH⟩ := h K' B' h1 C ρ F a w hM hS hc'
  obtain ⟨hM', he⟩ := hM.turn hc' hfr hH
  unfold Oper.wp
  rw [hx, Oper.upon_value]
  exact hK _ _ ⟨put_size.trans hn, put_defers.trans hd, ρ, F, hM', (hS.mono he fun _ _ _ => rfl).putO (fun e he => by rw [hn]; exact hlt e he) trivial⟩
theorem snd_copyTo (hP : TblOK P tt) {T T' e : TypeId} {te : TI} {x y : Operand} {c : Call} {d off n : Nat} {ys : List UInt8} (ho : o.op = .call c) (hc1 : c.callee = .builtin .copy) (hc2 : c.args.toList = [x, y]) (hc3 : c.argTypes.toList = [T, T']) (he : elemOf tt T = some (e, te)) (h8 : isU8 tt e = true) (hy : opv K y = .c (.one (.d (.lst .u8 ys))))
    (hx : ∀ (K' : KL) (ρ : Nat → Pl) (I : Nat → Prop) (a : Act) (w : World), Slots K' ρ I a w → opv K' x = opv K x → ∀ (M : Nat), (ρ d).n = M → (∀ e xs, lookB B d = some (.row e .u8 xs) → List.length xs = M) → off + n ≤ M → ∃ dp dCap, a.eval x = .slice dp n dCap ∧ (0 < n → ∀ g cap, (ρ d).hdr = .slice (some ⟨g, 0, none⟩) M cap → M ≤ cap → dp = some ⟨g, off, none⟩))
    (h : vcCopyTo d off n ys B k) : Snd P N ids o K B k := by
  have hargs : c.args = #[x, y] := Array.toList_inj.1 hc2
  have hts : c.argTypes = #[T, T'] := Array.toList_inj.1 hc3
  obtain ⟨cal, args, ts⟩ := c
  simp only at hc1 hargs hts
  subst hc1 hargs hts
  have m1 : x ∈ o.op.operands := by rw [ho]; simp [Op.operands, Call.operands]
  have m2 : y ∈ o.op.operands := by rw [ho]; simp [Op.operands, Call.operands]
  obtain ⟨hu, inf, ds, hok⟩ := elem_ok hP he
  obtain ⟨_, ti8, i8, d8, hok8, _, hs8, _⟩ := isU8_ok hP h8
  have hsz : (P.info? e).map (·.size) = some 1 := by rw [hok8.info]; simp [hok8.size, hs8]
  unfold vcCopyTo at h
  split at h
  · rename_i e' xs hl
    obtain ⟨hfit, h⟩ := h
    refine Snd.of h <| OpOK.turnV hl fun K' B' h1 C ρ F a w hM hS hl' => ?_
    obtain ⟨hF, hblk, cs, hown, hrec⟩ := hM.holds d _ hl'
    have hown' := hown
    obtain ⟨hcl, A, cap, hv, _, _, _⟩ := Sl.of_own hown'
    have hn : (ρ d).n = xs.length := by unfold Pl.hdr at hv; injection hv
    have hcs : cs = xs.map byteV := recs_bytes hrec (by have := hcl; simp [sz] at this; exact this)
    obtain ⟨dp, dCap, hxe, hxd⟩ := hx K' ρ _ a w hS (h1 x m1) _ hn (fun e2 xs2 h2 => by rw [hl] at h2; cases h2; rfl) hfit
    have hys := lst_sl (fun b hb => hb.1) (hS.lst ((h1 y m2).trans hy))
    obtain ⟨r, w', hrun, hfr, hrow⟩ := run_copyTo (P := P) (w := w) (dT := T) (sT := T') (ty := o.type) hu hsz (dCap := dCap) hown hxd hfit hys (byteV_one _)
    refine ⟨r, w', ?_, hfr.mono fun b _ hb => (hF b).2 hb, fun I hE => ⟨hF, hblk, List.take off cs ++ List.take n (List.map byteV ys) ++ List.drop (off + (List.take n (List.map byteV ys)).length) cs, ?_, ?_⟩⟩
    · simp [execOp, ho, resolve, invoke, builtin, hxe, hrun]
    · have e3 : List.length (α := El .u8) (laid xs off n ys) = List.length (α := El .u8) xs := laid_length xs ys hfit
      show w'.ownsRow 0 e' 1 (ρ d).hdr (List.length (α := El .u8) (laid xs off n ys)) _
      rw [e3]
      exact hrow
    · rw [hcs]
      have e1 := laid_map xs ys off n
      rw [e1]
      exact bytes_recs I w' _
  · exact h.elim
theorem snd_copy (hP : TblOK P tt) {T T' : TypeId} {x y : Operand} {c : Call} (ho : o.op = .call c) (hc1 : c.callee = .builtin .copy) (hc2 : c.args.toList = [x, y]) (hc3 : c.argTypes.toList = [T, T']) (h : vcCopy tt T (opv K x) (opv K y) B k) : Snd P N ids o K B k := by
  unfold vcCopy at h
  split at h
  · rename_i e te he
    split at h
    · rename_i ys h8 hy
      split at h
      · rename_i d hx
        split at h
        · rename_i e' xs hl
          refine snd_copyTo hP ho hc1 hc2 hc3 he h8 hy (fun K' ρ I a w hS hk M hM hxs hfit => ⟨(ρ d).A, (ρ d).cap, ?_, fun hp g cap hv _ => ?_⟩) h
          · have := hS.own (hk.trans hx)
            rw [this, hxs e' xs hl, ← hM]
            rfl
          · unfold Pl.hdr at hv
            injection hv
        · exact h.elim
      · rename_i d s off n hx
        split at h
        · rename_i hs
          have := Nat.eq_of_beq_eq_true hs
          subst this
          refine snd_copyTo hP ho hc1 hc2 hc3 he h8 hy (fun K' ρ I a w hS hk M hM hxs hfit => ⟨_, _, hS.os (hk.trans hx), fun hp g cap hv hMc => ?_⟩) h
          unfold Pl.hdr at hv
          injection hv with e1 e2 e3
          rw [if_neg (by omega), e1, Option.map_some, addr_add]
          simp
        · exact h.elim
      · exact h.elim
    · exact h.elim
  · exact h.elim
end
end Go.Proofs.Ythghcdddambaeaa
