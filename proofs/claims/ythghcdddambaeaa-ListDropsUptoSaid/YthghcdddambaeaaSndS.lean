/-
  Soundness of the conditions: indexes, slicing, conversions, builtins.
-/
import Derived.Test.YthghcdddambaeaaSndR
import Derived.Maps.AppendAt
import Derived.Lib.Strings
set_option linter.unusedVariables false
set_option linter.unusedSimpArgs false
namespace Go.Proofs.Ythghcdddambaeaa
open Go.RowKit

section
variable {P : Program} {tt : Tr} {N : Nat} {ids : List Nat} {o : Oper} {K : KL} {B : BL} {k : SV → Eff → Prop}
theorem exec_index {ev : Operand → Value} {T E : TypeId} {x i : Operand} {b q n c s : Nat} {w : World} {m : Int} {inf : TypeInfo} (ho : o.op = .indexAddr T x i) (hx : ev x = .slice (some ⟨b, q, none⟩) n c) (hi : ev i = .int .i64 m) (hu : P.underlying T = some (.slice E)) (hinf : P.info? E = some inf) (hs : inf.size = s)
    (h0 : 0 ≤ m) (hk : m.toNat < n) : (execOp ev o).run P w = .ok (.value (.pointer (some ⟨b, q + m.toNat * s, none⟩))) w := by
  subst hs
  have h1 : m < (n : Int) := by omega
  simp [execOp, ho, hx, hi, Instr.indexAt, asIntOf, run_underlying hu, h0, h1, sizeOf, typeInfo, hinf, addr_add]
theorem snd_indexAddr (hP : TblOK P tt) {T : TypeId} {x i : Operand} (ho : o.op = .indexAddr T x i) (h : match elemOf tt T, opv K i with
    | some (_, te), .c (.one (.d (.int .i64 n))) => match opv K x with
      | .c (.one (.d (.lst u xs))) => match Nat.beq te.size (sz u) with
        | true => 0 ≤ n ∧ ∃ y, lget xs n.toNat = some y ∧ k (.c (.one (.el u y 0))) e0
        | false => False
      | .c (.one (.own c)) => match lookB B c with
        | some (.row _ u xs) => match Nat.beq te.size (sz u) with
          | true => (0 ≤ n ∧ n < xs.length) ∧ k (.c (.one (.rp c (sz u) n.toNat 0))) ⟨[c], [], []⟩
          | false => False
        | _ => False
      | _ => False
    | _, _ => False) : Snd P N ids o K B k := by
  have m1 : x ∈ o.op.operands := by rw [ho]; simp [Op.operands]
  have m2 : i ∈ o.op.operands := by rw [ho]; simp [Op.operands]
  split at h
  · rename_i e te n he hi
    obtain ⟨hu, inf, ds, hok⟩ := elem_ok hP he
    split at h
    · rename_i u xs hx
      split at h
      · rename_i hs
        have hs := Nat.eq_of_beq_eq_true hs
        obtain ⟨h0, y, hy, h⟩ := h
        refine Snd.of h <| OpOK.two hx hi m1 m2 fun K' ρ I a w hS e1 e2 => ?_
        obtain ⟨A, cap, e3, e4, e5, e6⟩ := hS.lst e1
        injection e3 with e3
        have hlt := lget_lt hy
        obtain ⟨b, q, rfl, hI, hd⟩ := e6 (by omega)
        refine ⟨_, exec_index ho e3 (hS.int e2) hu hok.info (hok.size.trans hs) h0 hlt, b, q + n.toNat * sz u, by rw [Nat.add_zero], hI, ?_⟩
        refine DenU.mono (Ext.refl _ _) u y _ _ (fun j v hj => ?_) (hd _ y hy)
        rw [← hj]
        congr 2
        omega
      · exact h.elim
    · rename_i c hx
      split at h
      · rename_i e' u xs hl
        split at h
        · rename_i hs
          have hs := Nat.eq_of_beq_eq_true hs
          obtain ⟨⟨h0, h1⟩, h⟩ := h
          refine Snd.of h <| OpOK.val fun K' B' g1 g2 C ρ F a w hM hS => ?_
          obtain ⟨hF, hblk, cs, hown, _⟩ := hM.holds c _ ((g2 c (by simp)).trans hl)
          have hx' := hS.own ((g1 x m1).trans hx)
          rcases hown.2 with ⟨_, h2⟩ | ⟨g, cap, cur, hv, _⟩
          · omega
          · have hb := hblk g (by rw [hv]; rfl)
            refine ⟨_, exec_index ho (hx'.trans hv) (hS.int ((g1 i m2).trans hi)) hu hok.info (hok.size.trans hs) h0 (by omega), ?_⟩
            simp only [DenV, DenC, DenS]
            rw [← hb, Nat.zero_add, Nat.add_zero]
        · exact h.elim
      · exact h.elim
    · exact h.elim
  · exact h.elim
theorem snd_index (hP : TblOK P tt) {T : TypeId} {x i : Operand} (ho : o.op = .index T x i) (h : match isStr tt T, opv K x, opv K i with
    | true, .c (.one (.d (.str s))), .c (.one (.d (.int .i64 n))) => 0 ≤ n ∧ ∃ y, lget s n.toNat = some y ∧ k (.c (.one (.d (.int .u8 (UInt8.toNat y : Int))))) e0
    | _, _, _ => False) : Snd P N ids o K B k := by
  have m1 : x ∈ o.op.operands := by rw [ho]; simp [Op.operands]
  have m2 : i ∈ o.op.operands := by rw [ho]; simp [Op.operands]
  split at h
  · rename_i s n hT hx hi
    obtain ⟨h0, y, hy, h⟩ := h
    have hu := isStr_ok hP hT
    refine Snd.of h <| OpOK.two hx hi m1 m2 fun K' ρ I a w hS e1 e2 => ⟨_, ?_, rfl⟩
    have hb : (⟨s.toArray⟩ : ByteArray)[n.toNat]? = some y := by
      have hlt := lget_lt hy
      have := (List.getElem?_eq_some_iff.1 hy).2
      rw [getElem?_pos (⟨s.toArray⟩ : ByteArray) n.toNat (by rw [size_mk]; exact hlt)]
      simp only [Option.some.injEq]
      rw [← this]
      rfl
    simp [execOp, ho, hS.str e1, hS.int e2, Instr.index, asIntOf, run_underlying hu, h0, hb]
  · exact h.elim

/-! ### slicing -/
theorem bnds_ok {K' : KL} {ρ : Nat → Pl} {I : Nat → Prop} {a : Act} {w : World} (hS : Slots K' ρ I a w) {n cap : Nat} {isS : Bool} {lo hi : Option Operand} {l h : Nat} {p : Prop} (hb : bnds n (lo.map (opv K)) (hi.map (opv K)) = some (l, h, p)) (hp : p) (hc : n ≤ cap)
    (hl : ∀ x, lo = some x → opv K' x = opv K x) (hh : ∀ x, hi = some x → opv K' x = opv K x) :
    (Instr.sliceBounds isS n cap (lo.map a.eval) (hi.map a.eval) none).run P w = .ok (l, h, cap) w ∧ l ≤ h ∧ h ≤ n := by
  unfold bnds at hb
  split at hb
  · rename_i j h1 h2
    cases lo with
    | some x => simp at h1
    | none =>
      cases hi with
      | none => simp at h2
      | some y =>
        simp only [Option.map_some, Option.some.injEq] at h2
        simp only [Option.some.injEq, Prod.mk.injEq] at hb
        obtain ⟨rfl, rfl, rfl⟩ := hb
        have hy := hS.int ((hh y rfl).trans h2)
        have q : j ≤ (cap : Int) := by omega
        refine ⟨?_, by omega, by omega⟩
        simp [Instr.sliceBounds, Instr.sliceBound, asIntOf, hy, hp.1, q]
  · rename_i i h1 h2
    cases lo with
    | none => simp at h1
    | some x =>
      cases hi with
      | some y => simp at h2
      | none =>
        simp only [Option.map_some, Option.some.injEq] at h1
        simp only [Option.some.injEq, Prod.mk.injEq] at hb
        obtain ⟨rfl, rfl, rfl⟩ := hb
        have hx := hS.int ((hl x rfl).trans h1)
        refine ⟨?_, by omega, Nat.le_refl _⟩
        simp [Instr.sliceBounds, Instr.sliceBound, asIntOf, hx, hp.1, hp.2]
  · rename_i i j h1 h2
    cases lo with
    | none => simp at h1
    | some x =>
      cases hi with
      | none => simp at h2
      | some y =>
        simp only [Option.map_some, Option.some.injEq] at h1 h2
        simp only [Option.some.injEq, Prod.mk.injEq] at hb
        obtain ⟨rfl, rfl, rfl⟩ := hb
        have hx := hS.int ((hl x rfl).trans h1)
        have hy := hS.int ((hh y rfl).trans h2)
        have q0 : 0 ≤ j := by omega
        have q : j ≤ (cap : Int) := by omega
        have q1 : i ≤ ((j.toNat : Nat) : Int) := by omega
        refine ⟨?_, by omega, by omega⟩
        simp [Instr.sliceBounds, Instr.sliceBound, asIntOf, hx, hy, hp.1, q0, q, hp.2.1]
        intro hlt
        omega
  · rename_i h1 h2
    cases lo with
    | some x => simp at h1
    | none =>
      cases hi with
      | some y => simp at h2
      | none =>
        simp only [Option.some.injEq, Prod.mk.injEq] at hb
        obtain ⟨rfl, rfl, rfl⟩ := hb
        refine ⟨?_, Nat.zero_le _, Nat.le_refl _⟩
        simp [Instr.sliceBounds]
  · cases hb
theorem data_slice {I : Nat → Prop} {w : World} {u : U} {xs : List (El u)} {A : Option Addr} {cap l h : Nat} (hx : DenU I w (.sl u) xs (fun _ => some (.slice A xs.length cap))) (hl : l ≤ h) (hh : h ≤ xs.length) :
    DenU I w (.sl u) ((xs.take h).drop l) (fun _ => some (.slice (if cap = l then A else A.map (·.add (l * sz u))) (h - l) (cap - l))) := by
  obtain ⟨A', cap', e, h1, h2, h3⟩ := hx
  injection e with e
  injection e with e1 e2 e3
  subst e1 e3
  have hlen : List.length ((xs.take h).drop l) = h - l := by rw [List.length_drop, List.length_take]; omega
  refine ⟨_, _, by rw [hlen], by rw [hlen]; omega, by omega, fun hpos => ?_⟩
  rw [hlen] at hpos
  obtain ⟨b, q, rfl, hI, hd⟩ := h3 (by omega)
  refine ⟨b, q + l * sz u, by rw [if_neg (by omega), Option.map_some, addr_add], hI, fun i x hi => ?_⟩
  have hi' : lget (α := El u) xs (l + i) = some x := by
    unfold lget at hi ⊢
    rw [List.getElem?_drop, List.getElem?_take] at hi
    split at hi
    · exact hi
    · cases hi
  refine DenU.mono (Ext.refl _ _) u x _ _ (fun j v hj => ?_) (hd _ x hi')
  rw [← hj, Nat.add_mul]
  congr 2
  omega
theorem snd_slice (hP : TblOK P tt) {T : TypeId} {x : Operand} {lo hi : Option Operand} (ho : o.op = .slice T x lo hi none) (h : vcSlice tt T (opv K x) (lo.map (opv K)) (hi.map (opv K)) k) : Snd P N ids o K B k := by
  have m1 : x ∈ o.op.operands := by rw [ho]; simp [Op.operands]
  have m2 : ∀ y, lo = some y → y ∈ o.op.operands := fun y hy => by rw [ho]; simp [Op.operands, hy]
  have m3 : ∀ y, hi = some y → y ∈ o.op.operands := fun y hy => by rw [ho]; simp [Op.operands, hy]
  unfold vcSlice at h
  split at h
  · rename_i s hx
    split at h
    · rename_i l hh p hT hb
      have hu := isStr_ok hP hT
      refine Snd.of h.2 <| OpOK.val fun K' B' h1 h2 C ρ F a w hM hS => ⟨_, ?_, rfl⟩
      have hx' := hS.str ((h1 x m1).trans hx)
      obtain ⟨q1, q2, q3⟩ := bnds_ok (P := P) hS (isS := false) hb h.1 (Nat.le_refl _) (fun y hy => h1 y (m2 y hy)) (fun y hy => h1 y (m3 y hy))
      rw [← size_mk s] at q1
      have he : (⟨s.toArray⟩ : ByteArray).extract l hh = ⟨((s.take hh).drop l).toArray⟩ := by
        have e := Lib.extract_data ⟨s.toArray⟩ l hh
        cases hz : (⟨s.toArray⟩ : ByteArray).extract l hh with
        | mk dd =>
          rw [hz] at e
          simp only at e
          congr 1
          rw [← Array.toArray_toList (xs := dd), e, List.drop_take]
      rw [← he]
      simp only [execOp, ho, Sem.run_bind, Instr.sliceAt, Instr.slice, run_underlying hu, Result.andThen_ok, hx', Option.map_none]
      simp only [Option.isSome_none, Bool.false_eq_true, if_false, Sem.run_bind, Sem.run_pure, Result.andThen_ok, q1]
    · exact h.elim
  · rename_i u xs hx
    split at h
    · rename_i e te l hh p he hb
      obtain ⟨hu, inf, ds, hok⟩ := elem_ok hP he
      split at h
      · rename_i hs
        have hs := Nat.eq_of_beq_eq_true hs
        refine Snd.of h.2 <| OpOK.val fun K' B' h1 h2 C ρ F a w hM hS => ?_
        have hd := hS.lst ((h1 x m1).trans hx)
        have hd' := hd
        obtain ⟨A, cap, e3, e4, e5, e6⟩ := hd'
        injection e3 with e3
        rw [e3] at hd
        obtain ⟨q1, q2, q3⟩ := bnds_ok (P := P) (w := w) hS (isS := true) hb h.1 e4 (fun y hy => h1 y (m2 y hy)) (fun y hy => h1 y (m3 y hy))
        refine ⟨_, ?_, data_slice hd q2 q3⟩
        have hz : (sizeOf e).run P w = .ok (sz u) w := by simp [sizeOf, typeInfo, hok.info, hok.size, hs]
        simp only [execOp, ho, Sem.run_bind, Instr.sliceAt, Instr.slice, run_underlying hu, Result.andThen_ok, e3, Option.map_none, q1, hz, Sem.run_pure]
      · exact h.elim
    · exact h.elim
  · exact h.elim

/-! ### conversions -/
theorem data_bytes {I : Nat → Prop} {w : World} {s : List UInt8} {v : Value} (h : DenU I w (.sl .u8) s (fun _ => some v)) (hI : ∀ b, I b → b < w.heap.size) : ∃ A c, v = .slice A s.length c ∧ Bytes I w (.slice A s.length c) s := by
  obtain ⟨news, h1, h2, h3⟩ := den_cells h hI
  have h1' := h1
  obtain ⟨hl, A, c, rfl, _⟩ := h1
  have e : news = s.map byteV := by
    apply List.ext_getElem?
    intro i
    rw [List.getElem?_map]
    cases hs : s[i]? with
    | none =>
      have := List.getElem?_eq_none_iff.1 hs
      rw [List.getElem?_eq_none (by rw [hl]; simp [sz]; exact this)]
      rfl
    | some x =>
      have := h2 i x hs
      have this : news[i * sz .u8 + 0]? = some (.int .u8 (UInt8.toNat x : Int)) := this
      simpa [sz, byteV] using this
  subst e
  exact ⟨A, c, rfl, h1'⟩
theorem snd_conv (hP : TblOK P tt) {S T : TypeId} {x : Operand} (ho : o.op = .convert S T x) (h : vcConv tt S T (opv K x) B k) : Snd P N ids o K B k := by
  have m1 : x ∈ o.op.operands := by rw [ho]; simp [Op.operands]
  unfold vcConv at h
  split at h
  · rename_i si ti hs ht
    obtain ⟨i1, d1, ok1⟩ := hP.at_ hs
    obtain ⟨i2, d2, ok2⟩ := hP.at_ ht
    split at h
    · rename_i i j i' n k1 k2 hx
      split at h
      · rename_i hj _
        have hj := eqK_eq hj
        subst hj
        refine Snd.of h <| OpOK.one hx m1 fun K' ρ I a w hS e1 => ⟨_, ?_, rfl⟩
        have hv := hS.int e1
        have hw : IntKind.u8.wrap n = n % 256 := by simp [IntKind.wrap, IntKind.bits, IntKind.signed]
        simp [execOp, ho, hv, convert, run_underlying (ok1.int k1), run_underlying (ok2.int k2), Conv.intToInt, hw]
      · have h := rng_and h
        refine Snd.of h.2 <| OpOK.one hx m1 fun K' ρ I a w hS e1 => ⟨_, ?_, rfl⟩
        have hv := hS.int e1
        simp [execOp, ho, hv, convert, run_underlying (ok1.int k1), run_underlying (ok2.int k2), Conv.intToInt, wrap_in h.1]
    · rename_i e s k1 k2 hx
      split at h
      · rename_i hu
        obtain ⟨hu8, _⟩ := isU8_ok hP hu
        refine Snd.of h.2 <| OpOK.new fun K' B' h1 h2 C ρ F a w hM hS => ?_
        have hv := hS.str ((h1 x m1).trans hx)
        obtain ⟨cap, w1, hrun, hb, hbl⟩ := run_str_bytes (P := P) w S T e ⟨s.toArray⟩ (ok1.str k1) (ok2.sl k2) hu8 (by rw [size_mk]; exact h.1)
        rw [size_mk] at hrun hb
        refine ⟨.slice (some ⟨w.heap.size, 0, none⟩) s.length cap, w1, by simp only [execOp, ho, Sem.run_bind, hv, hrun, Result.andThen_ok, Sem.run_pure], hbl, fun I he hI => ?_⟩
        obtain ⟨hl, A, c, e1, e2, e3, e4⟩ := hb
        injection e1 with e1 e1' e1''
        subst e1 e1''
        have e2' : s.length ≤ cap := by simpa using e2
        refine ⟨_, cap, rfl, e2', e3, fun hpos => ?_⟩
        have hpos' : 0 < s.length := hpos
        obtain ⟨b, q, eA, hge, hlt, hc⟩ := e4 (by simpa using hpos')
        refine ⟨b, q, eA, hI b hge hlt, fun i y hy => ?_⟩
        have hm : (List.map byteV s)[i]? = some (byteV y) := by
          rw [List.getElem?_map]
          exact congrArg (Option.map byteV) hy
        show w1.cell? ⟨b, q + (i * 1 + 0), none⟩ = some (byteV y)
        rw [Nat.mul_one, Nat.add_zero]
        exact hc i _ hm
      · exact h.elim
    · rename_i e s k1 k2 hx
      split at h
      · rename_i hu
        obtain ⟨hu8, _⟩ := isU8_ok hP hu
        refine Snd.of h <| OpOK.val fun K' B' h1 h2 C ρ F a w hM hS => ⟨_, ?_, rfl⟩
        obtain ⟨A, c, hv, hb⟩ := data_bytes (hS.lst ((h1 x m1).trans hx)) (fun b hb => hb.1)
        simp only [execOp, ho, Sem.run_bind, hv, run_bytes_str hb S T e (ok1.sl k1) hu8 (ok2.str k2), Result.andThen_ok, Sem.run_pure]
      · exact h.elim
    · rename_i e k1 k2 hx
      split at h
      · rename_i hu
        obtain ⟨hu8, _⟩ := isU8_ok hP hu
        refine Snd.of h <| OpOK.one hx m1 fun K' ρ I a w hS e1 => ⟨_, ?_, rfl⟩
        have hv := hS.nils e1
        simp only [execOp, ho, Sem.run_bind, hv, run_convert_bytes_nil (P := P) (w := w) S e (ok1.sl k1) hu8 0 0 T (ok2.str k2), Result.andThen_ok, Sem.run_pure]
        rfl
      · exact h.elim
    · rename_i e c k1 k2 hx
      split at h
      · rename_i e' s hl hu
        obtain ⟨hu8, _⟩ := isU8_ok hP hu
        refine Snd.of h <| OpOK.val fun K' B' h1 h2 C ρ F a w hM hS => ⟨_, ?_, rfl⟩
        have hown := hM.holds c _ ((h2 c (by simp)).trans hl)
        have hd := row_data hown (I' := fun b => b < w.heap.size) (fun b hb => hb.1) (fun b hb => (hM.own c _ ((h2 c (by simp)).trans hl) b hb).1)
        obtain ⟨A, cc, hv, hb⟩ := data_bytes hd (fun b hb => hb)
        have hx' := hS.own ((h1 x m1).trans hx)
        simp only [execOp, ho, Sem.run_bind, hx', hv, run_bytes_str hb S T e (ok1.sl k1) hu8 (ok2.str k2), Result.andThen_ok, Sem.run_pure]
      · exact h.elim
    · exact h.elim
  · exact h.elim
theorem snd_sliceOwn (hP : TblOK P tt) {T : TypeId} {x : Operand} {lo hi : Option Operand} {c : Nat} (ho : o.op = .slice T x lo hi none) (hx : opv K x = .c (.one (.own c))) (h : match elemOf tt T, lookB B c with
      | some (_, te), some (.row _ u xs) => match bnds xs.length (lo.map (opv K)) (hi.map (opv K)), Nat.beq te.size (sz u) with
        | some (l, h, p), true => p ∧ k (.c (.one (.os c (sz u) l (h - l)))) ⟨[c], [], []⟩
        | _, _ => False
      | _, _ => False) : Snd P N ids o K B k := by
  have m1 : x ∈ o.op.operands := by rw [ho]; simp [Op.operands]
  have m2 : ∀ y, lo = some y → y ∈ o.op.operands := fun y hy => by rw [ho]; simp [Op.operands, hy]
  have m3 : ∀ y, hi = some y → y ∈ o.op.operands := fun y hy => by rw [ho]; simp [Op.operands, hy]
  split at h
  · rename_i e te e' u xs he hl
    obtain ⟨hu, inf, ds, hok⟩ := elem_ok hP he
    split at h
    · rename_i l hh p hb hs
      have hs := Nat.eq_of_beq_eq_true hs
      refine Snd.of h.2 <| OpOK.val fun K' B' h1 h2 C ρ F a w hM hS => ?_
      have hx' := hS.own ((h1 x m1).trans hx)
      obtain ⟨_, _, cs, hown, _⟩ := hM.holds c _ ((h2 c (by simp)).trans hl)
      obtain ⟨_, A, cap, hv, hn, hc, _⟩ := Sl.of_own hown
      unfold Pl.hdr at hv hx'
      injection hv with e1 e2 e3
      rw [e2] at hx'
      obtain ⟨q1, q2, q3⟩ := bnds_ok (P := P) (w := w) hS (isS := true) hb h.1 (by rw [← e3] at hn; exact hn : xs.length ≤ (ρ c).cap) (fun y hy => h1 y (m2 y hy)) (fun y hy => h1 y (m3 y hy))
      refine ⟨_, ?_, rfl⟩
      have hz : (sizeOf e).run P w = .ok (sz u) w := by simp [sizeOf, typeInfo, hok.info, hok.size, hs]
      simp only [execOp, ho, Sem.run_bind, Instr.sliceAt, Instr.slice, run_underlying hu, Result.andThen_ok, hx', Option.map_none, q1, hz, Sem.run_pure]
    · exact h.elim
  · exact h.elim
end
end Go.Proofs.Ythghcdddambaeaa
