/-
  Boxes by their addresses: a pool of single cells; loads through addresses.
-/
import Derived.Test.YtolaecebfkdbcaaGreatRg
set_option linter.unusedVariables false
set_option linter.unusedSimpArgs false
namespace Go.Proofs.YtolaecebfkdbcaaGreat
open Go.RowKit
/-- One cell. -/
def cellO (x : D) : Ob where
  R := fun I F w p => Holds (fun _ => p) I F w p (.cells [.d x])
  stable := fun I F w I' w' p h he hF hz => Holds.stable he hF hz (.cells [.d x]) (fun _ _ => rfl) h
theorem cellO_close {c : Nat} {x : D} : ∀ I F w p, grpR c [(c, .cells [.d x])] I F w p → (cellO x).R I F w p := by
  rintro I F w p ⟨ρ, G, h1, h2, h3, h4⟩
  have h := h2 c _ (by rw [lookB_cons, if_pos rfl])
  rw [h1] at h
  have hG : F = G c := by
    funext b
    refine propext ((h4 b).trans ⟨?_, fun g => ⟨c, _, by rw [lookB_cons, if_pos rfl], g⟩⟩)
    rintro ⟨d, ch, e, g⟩
    rw [lookB_cons] at e
    split at e
    · rename_i e2
      rw [← e2] at g
      exact g
    · cases e
  rw [hG]
  exact Holds.stable (Ext.refl _ _) (fun _ _ => rfl) (Nat.le_refl _) (.cells [.d x]) (fun d hd => by cases hd) h
section
variable {P : Program} {ids : List Nat} {K : KL} {B : BL}
theorem opOK_loadAdr {o : Oper} {T : TypeId} {x : Operand} {q b : Nat} {y : D} {L : List (Nat × Ob)} {d : TypeDesc} (ho : o.op = .load T x) (hT : P.underlying T = some d) (hd : d.isRow = false) (hx : opv K x = .c (.one (.d (.adr (some b)))))
    (hq : lookB B q = some (.obj (.pool L))) (hL : pget L b = some (cellO y)) (N : Nat) : OpOK P N ids o K B (.c (.one (.d y))) ⟨[q], [], []⟩ := by
  have hm : x ∈ o.op.operands := by rw [ho]; simp [Op.operands]
  refine OpOK.val fun K' B' g1 g2 C ρ F a w hM hS => ?_
  have hq' := (g2 q (by simp)).trans hq
  have hP : poolR (Imm C B' F w) w L (F q) := hM.holds q _ hq'
  obtain ⟨F1, F2, p, k1, k2, k3, k4, k5⟩ := hP.out hL
  have hv : a.eval x = .pointer (some ⟨b, 0, none⟩) := hS.ev ((g1 x hm).trans hx)
  obtain ⟨h1, vs, T', h2, h3⟩ := k4
  obtain ⟨v, r, e, h4, h5⟩ := h3
  have h5 : r = [] := h5
  subst h5 e
  rw [k3] at h2
  exact ⟨v, exec_load1 ho hv hT hd (cell_of h2 rfl), h4⟩
/-- Is a list nil? -/
theorem opS_lstNil {o : Oper} {T T2 e' : TypeId} {x : Operand} {u : U} {xs : List (El u)} (ho : o.op = .binOp .eql T x (.const (.slice none 0 0)) T2) (hx : opv K x = .c (.one (.d (.lst u xs)))) (hT : P.underlying T = some (.slice e')) :
    OpS P ids o K B (fun v ef => ∃ b : Bool, (b = true → xs = []) ∧ v = .c (.one (.d (.lit b))) ∧ ef = ⟨[], [], []⟩) := by
  rintro N C a w ⟨hn, hd, ρ, F, hM, hS⟩ hlt Kn Q hK
  obtain ⟨A, cap, e1, h2, h3, h4⟩ : Den (Imm C B F w) w (.lst u xs) (a.eval x) := hS.ev hx
  injection e1 with e1
  have hrun : (execOp a.eval o).run P w = .ok (.value (.bool A.isNone)) w := by
    simp only [execOp, ho, e1]
    have e2 : a.eval (.const (.slice none 0 0)) = .slice none 0 0 := rfl
    have h := Lib.run_eql_slice_nil (P := P) w T e' A (List.length xs) cap 0 0 hT
    simp [e2, h, Result.andThen, eqGuard]
  unfold Oper.wp
  rw [hrun, Oper.upon_value]
  refine hK (.c (.one (.d (.lit A.isNone)))) ⟨[], [], []⟩ _ _ ⟨_, fun hb => ?_, rfl, rfl⟩ ⟨put_size.trans hn, put_defers.trans hd, ρ, F, hM, hS.putO (fun e he => by rw [hn]; exact hlt e he) rfl⟩
  rcases Nat.eq_zero_or_pos (List.length xs) with h | h
  · exact List.eq_nil_of_length_eq_zero h
  · obtain ⟨b, q, hA, _⟩ := h4 h
    rw [hA] at hb
    cases hb
/-- A slice of data up to a place that is its room, too. -/
theorem opOK_slice3 {tt : Tr} (hP : TblOK P tt) {o : Oper} {T et : TypeId} {te : TI} {x y z : Operand} {u : U} {xs : List (El u)} {n : Int} (ho : o.op = .slice T x none (some y) (some z)) (he : elemOf tt T = some (et, te)) (hz : te.size = sz u)
    (hx : opv K x = .c (.one (.d (.lst u xs)))) (hy : opv K y = .c (.one (.d (.int .i64 n)))) (hz2 : opv K z = .c (.one (.d (.int .i64 n)))) (h0 : 0 ≤ n) (h1 : n ≤ List.length xs) (N : Nat) :
    OpOK P N ids o K B (.c (.one (.d (.lst u (xs.take n.toNat))))) ⟨[], [], []⟩ := by
  have m1 : x ∈ o.op.operands := by rw [ho]; simp [Op.operands]
  have m2 : y ∈ o.op.operands := by rw [ho]; simp [Op.operands]
  have m3 : z ∈ o.op.operands := by rw [ho]; simp [Op.operands]
  refine OpOK.val fun K' B' g1 g2 C ρ F a w hM hS => ?_
  obtain ⟨A, cap, e3, e4, e5, e6⟩ := hS.lst ((g1 x m1).trans hx)
  injection e3 with e3
  have e1 := hS.int ((g1 y m2).trans hy)
  have e2 := hS.int ((g1 z m3).trans hz2)
  obtain ⟨hT, inf, ds, hok⟩ := elem_ok hP he
  have hsz : (sizeOf et).run P w = .ok (sz u) w := by simp [sizeOf, typeInfo, hok.info, hok.size, hz]
  have q : n ≤ (cap : Int) := by omega
  have hb : (Instr.sliceBounds true (List.length xs) cap none (some (a.eval y)) (some (a.eval z))).run P w = .ok (0, n.toNat, n.toNat) w := by
    simp [Instr.sliceBounds, Instr.sliceBound, asIntOf, e1, e2, h0, q]
    intro hlt
    omega
  have hlen : List.length (xs.take n.toNat) = n.toNat := by rw [List.length_take]; omega
  refine ⟨.slice (if n.toNat = 0 then A else A.map (·.add (0 * sz u))) (n.toNat - 0) (n.toNat - 0), ?_, ?_⟩
  · simp only [execOp, ho, Sem.run_bind, Instr.sliceAt, Instr.slice, run_underlying hT, Result.andThen_ok, e3, Option.map_none, Option.map_some, hb, hsz, Sem.run_pure]
  · refine ⟨_, n.toNat, by rw [hlen]; rfl, by rw [hlen]; exact Nat.le_refl _, by omega, fun hpos => ?_⟩
    rw [hlen] at hpos
    obtain ⟨b, q2, rfl, hI, hd⟩ := e6 (by omega)
    refine ⟨b, q2, by rw [if_neg (by omega), Nat.zero_mul]; rfl, hI, fun i x hx2 => ?_⟩
    have hi' : lget (α := El u) xs i = some x := by
      unfold lget at hx2 ⊢
      rw [List.getElem?_take] at hx2
      split at hx2
      · exact hx2
      · cases hx2
    exact hd i x hi'
/-- A box, put into a pool of boxes, its address named. -/
theorem LeX.box (s c q : Nat) {x : D} {L : List (Nat × Ob)} (hs : look K s = .c (.one (.ptr c 0))) (hc : lookB B c = some (.cells [.d x])) (hne : c ≠ q) (hq : lookB B q = some (.obj (.pool L))) :
    LeX ids K B (fun b : Nat => (s, .c (.one (.d (.adr (some b))))) :: K) (fun b => (q, .obj (.pool ((b, cellO x) :: L))) :: dropB ((c, .obj ((cellO x).at b)) :: (c, .obj (cellO x)) :: dropB B c) c) := by
  intro N C a w h
  have h1 := Le.close (ids := ids) (K := K) (B := B) c [(c, .cells [.d x])] (o := cellO x) ⟨hc, trivial⟩ (by simp [keysB]) cellO_close N C a w h
  obtain ⟨b, h2⟩ := LeX.name (ids := ids) s c (o := cellO x) hs (by rw [lookB_cons, if_pos rfl]) N C a w h1
  refine ⟨b, ?_⟩
  have hql : lookB ((c, Ch.obj ((cellO x).at b)) :: (c, .obj (cellO x)) :: dropBs (keysB [(c, Ch.cells [.d x])]) B) q = some (.obj (.pool L)) := by
    rw [lookB_cons, if_neg hne, lookB_cons, if_neg hne]
    show lookB (dropB B c) q = _
    rw [lookB_dropB, if_neg hne]
    exact hq
  exact Le.put (ids := ids) q c (o := cellO x) (b := b) (L := L) hne hql (by rw [lookB_cons, if_pos rfl]) N C a w h2
end
/-! ### calls that only read -/
theorem look_far {K : KL} {s : Nat} {f : Nat} (h : s ≠ 1000000 + f) : look ((1000000 + f, .undef) :: K) s = look K s := by rw [look_cons, if_neg (Ne.symm h)]
theorem TrQ.ro {P : Program} {N : Nat} {ids : List Nat} {K : KL} {B : BL} {c : Code} {Q : Post} (f : Nat) (hN : N ≤ 1000000) (h : TrQ P N ids c ((1000000 + f, .undef) :: K) B Q) : TrQ P N ids c K B Q := by
  intro r hr C Qs hq a w hs
  refine h r hr C Qs hq a w ?_
  obtain ⟨hn, hd, ρ, F, hM, hS⟩ := hs
  refine ⟨hn, hd, ρ, F, hM, fun s => ?_⟩
  rw [look_cons]
  split
  · rename_i e
    subst e
    show a.tmps.getD (1000000 + f) undef = undef
    rw [Array.getD_eq_getD_getElem?, Array.getElem?_eq_none (by omega)]
    rfl
  · exact hS s
theorem opOK_callR {P : Program} {ids : List Nat} {K : KL} {B : BL} {o : Oper} {f : FuncId} {c : Call} {xs : List Operand} {Bi : BL} {res : SV} {Bo : BL} (ho : o.op = .call c) (h1 : c.callee = .value (.func f)) (h2 : c.args.toList = xs) (hf : Fn P f (xs.map (opv K)) Bi [] res Bo) (hsub : subB B Bi) (hok : outOK Bi [] Bo = true) (hsame : ∀ c, lookB Bo c = lookB Bi c) (N : Nat) :
    OpOK P N ids o K B res ⟨keysB Bi, [], []⟩ := by
  obtain ⟨v, e, ⟨rfl, rfl⟩, hO, _⟩ : Snd P N ids o K B (fun v e => v = res ∧ e = ⟨keysB Bi, [], effB Bi Bo⟩) := snd_call ho h1 h2 ⟨Bi, [], res, Bo, hf, hsub, by rw [hok]; rfl, by rw [forceV_eq]; exact ⟨rfl, rfl⟩⟩
  intro K' B' g1 g2 g3 C a w hs hlt Kn Q hK
  refine hO K' B' g1 g2 g3 C a w hs hlt Kn Q fun a' w' hs' => hK a' w' (hs'.congr (fun _ => rfl) fun d => ?_)
  show lookB B' d = lookB (applyB (effB Bi Bo) B') d
  rw [applyB_all Bi Bi [] Bo B' hok, hsame]
  cases hd : lookB Bi d with
  | none =>
    simp only
    rw [if_neg fun hk => by obtain ⟨ch, h⟩ := keysB_mem.1 hk; rw [hd] at h; cases h]
  | some ch => exact (g2 d (keysB_mem.2 ⟨ch, hd⟩)).trans (subB_get hsub hd)
/-- A literal slice of one text, as a row of one's own (asked for by a slot: 2000000 + its own). -/
theorem TrQ.bo {P : Program} {N : Nat} {ids : List Nat} {K : KL} {B : BL} {c : Code} {Q : Post} (d : Nat) (hN : N ≤ 1000000) (h : TrQ P N ids c ((1000000 + (1000000 + d), .undef) :: K) B Q) : TrQ P N ids c K B Q := TrQ.ro (1000000 + d) hN h
theorem opOK_buildOwn1 {P : Program} {ids : List Nat} {K : KL} {B : BL} {o : Oper} {T e d : Nat} {x : Operand} {s : List UInt8} {inf : TypeInfo} (ho : o.op = .buildSlice T 1 #[(0, x)]) (hT : P.underlying T = some (.slice e)) (hi : P.info? e = some inf) (hz : inf.zero = some (.string ⟨#[]⟩)) (hs : inf.size = 1)
    (hx : opv K x = .c (.one (.d (.str s)))) (N : Nat) : OpOK P N ids o K B (.c (.one (.own d))) ⟨[], [d], [(d, some (.row e .str [s]))]⟩ := by
  have m1 : x ∈ o.op.operands := by rw [ho]; simp [Op.operands]
  refine OpOK.make (fun d h => has_own h) fun K' B' g1 g2 C ρ F a w hM hS hn => ?_
  have e1 : a.eval x = .string ⟨List.toArray s⟩ := hS.ev ((g1 x m1).trans hx)
  refine ⟨.slice (some ⟨w.heap.size, 0, none⟩) 1 1, w.alloc (.cells (List.toArray [.string ⟨List.toArray s⟩]) e), ⟨w.heap.size, some ⟨w.heap.size, 0, none⟩, 1, 1⟩, fun b => b = w.heap.size, ?_, alloc_below w _, fun b hb => (by subst hb; exact ⟨Nat.le_refl _, by simp⟩), fun I he hb => ⟨⟨?_, ?_, [.string ⟨List.toArray s⟩], ?_, fun i y hy => ?_⟩, ?_⟩⟩
  · have hrun := run_buildSlice (P := P) w T e 1 (#[(0, x)].map fun p => (p.1, a.eval p.2)) (List.toArray [.string ⟨List.toArray s⟩]) inf (.string ⟨#[]⟩) hT hi hz (by rw [hs]; decide)
      (by rw [hs]; decide) (by
        rw [hs]
        have ev : (Value.string ⟨List.toArray s⟩).cells = #[.string ⟨List.toArray s⟩] := rfl
        simp [e1, Instr.fill, ev]
        rw [show Array.range 1 = #[0] from rfl]
        simp)
    unfold execOp
    simp only [ho, Sem.run_bind, hrun, Result.andThen_ok]
    rfl
  · intro b
    show b = w.heap.size ↔ some w.heap.size = some b
    rw [Option.some.injEq]
    exact eq_comm
  · intro b hb
    have hb : some w.heap.size = some b := hb
    injection hb with hb
    exact hb.symm
  · exact ownsRow_new w e 1 1 [.string ⟨List.toArray s⟩] rfl (by decide)
  · match i with
    | 0 =>
      have hy : some s = some y := hy
      injection hy with hy
      subst hy
      rfl
    | i + 1 =>
      have hy : (none : Option (List UInt8)) = some y := hy
      cases hy
  · simp only [DenV, DenC, DenS, upd_same]
    rfl
end Go.Proofs.YtolaecebfkdbcaaGreat
