/-
  Arrays and structs as values; rows of numbers; functions compared with nil.
-/
import Derived.Test.YtolaecebfkdbcaaGreatRf
import Derived.Test.YtolaecebfkdbcaaGreatAd
import Derived.DeepKeys
import Derived.Laws.MakeOwn
import Derived.Laws.StructEq
set_option linter.unusedVariables false
set_option linter.unusedSimpArgs false
namespace Go.Proofs.YtolaecebfkdbcaaGreat
open Go.RowKit

/-! ### things without addresses, written out -/
def valS : S1 → Value
  | .d (.int k n) => .int k n
  | .d (.bool b) => .bool b
  | .d (.lit b) => .bool b
  | .d (.str s) => .string ⟨List.toArray s⟩
  | _ => .nilFunc
def litS : S1 → Lit
  | .d (.int k n) => .int k n
  | .d (.bool b) => .bool b
  | .d (.lit b) => .bool b
  | .d (.str s) => .string s
  | _ => .nil
def plainS : S1 → Bool
  | .d (.int _ _) => true
  | .d (.bool _) => true
  | .d (.lit _) => true
  | .d (.str _) => true
  | _ => false
def valsL : List S1 → List Value
  | [] => []
  | s :: l => valS s :: valsL l
def litsL : List S1 → List Lit
  | [] => []
  | s :: l => litS s :: litsL l
def plainL : List S1 → Bool
  | [] => true
  | s :: l => plainS s && plainL l
theorem denL_vals {ρ : Nat → Pl} {I : Nat → Prop} {w : World} : ∀ {l : List S1} {vs : List Value}, plainL l = true → DenL ρ I w l vs → vs = valsL l
  | [], vs, _, h => h
  | s :: l, vs, hp, ⟨v, r, e, h1, h2⟩ => by
    simp only [plainL, Bool.and_eq_true] at hp
    have h3 := denL_vals hp.2 h2
    subst h3 e
    have : v = valS s := by
      cases s with
      | d x => cases x <;> first | exact h1 | (simp [plainS] at hp; done)
      | _ => simp [plainS] at hp
    rw [this]
    rfl
section
variable {P : Program} {tt : Tr} {ids : List Nat} {K : KL} {B : BL}
/-- Structs, arrays compared. -/
theorem opOK_eqDeep {o : Oper} {T T2 : TypeId} {x y : Operand} {lx ly : List S1} {m D : Nat} (ho : o.op = .binOp .eql T x y T2) (hg : P.eqGuardType P.depth T = false) (hk : P.keyTypeAt m T = true) (hm : m ≤ 10000)
    (hx : opv K x = .c (.agg lx)) (hy : opv K y = .c (.agg ly)) (hpl : (plainL lx && plainL ly) = true) (fx : (Value.agg (List.toArray (valsL lx))).formed P T = true) (fy : (Value.agg (List.toArray (valsL ly))).formed P T = true)
    (kx : P.keyLits D T (valsL lx) = some (litsL lx)) (ky : P.keyLits D T (valsL ly) = some (litsL ly)) {r : Bool} (hr : r = true ↔ litsL lx = litsL ly) (N : Nat) : OpOK P N ids o K B (.c (.one (.d (.bool r)))) ⟨[], [], []⟩ := by
  have m1 : x ∈ o.op.operands := by rw [ho]; simp [Op.operands]
  have m2 : y ∈ o.op.operands := by rw [ho]; simp [Op.operands]
  simp only [Bool.and_eq_true] at hpl
  refine OpOK.val fun K' B' g1 g2 C ρ F a w hM hS => ?_
  obtain ⟨vs, e1, h1⟩ := hS.ev ((g1 x m1).trans hx)
  obtain ⟨us, e2, h2⟩ := hS.ev ((g1 y m2).trans hy)
  have h1 := denL_vals hpl.1 h1
  have h2 := denL_vals hpl.2 h2
  subst h1 h2
  obtain ⟨q, hq, hiff⟩ := run_equalIn_deep (P := P) (10000 - m) m T hk w D D (.agg (List.toArray (valsL lx))) (.agg (List.toArray (valsL ly))) (litsL lx) (litsL ly) fx fy (by simpa [Value.cells] using kx) (by simpa [Value.cells] using ky)
  rw [show 10000 - m + m = 10000 by omega] at hq
  have hqr : q = r := by
    cases q <;> cases r
    · rfl
    · exact absurd (hiff.2 (hr.1 rfl)) (by simp)
    · exact absurd (hr.2 (hiff.1 rfl)) (by simp)
    · rfl
  subst hqr
  refine ⟨.bool q, ?_, rfl⟩
  simp only [execOp, ho, e1, e2, Sem.run_bind, run_eqGuard_agg w .eql T x y _ _ hg, Result.andThen_ok, run_eql_struct, hq, Sem.run_pure]
/-- A struct's part that is one cell. -/
theorem opOK_field {o : Oper} {T : TypeId} {x : Operand} {f : Nat} {l : List S1} {fs : Array Field} {fd : Field} {d : TypeDesc} {s : S1} (ho : o.op = .field T x f) (hT : P.underlying T = some (.struct fs)) (hfd : fs[f]? = some fd) (hd : P.underlying fd.type = some d) (hrow : d.isRow = false)
    (hx : opv K x = .c (.agg l)) (hs : l[fd.offset]? = some s) (N : Nat) : OpOK P N ids o K B (.c (.one s)) ⟨[], [], []⟩ := by
  have m1 : x ∈ o.op.operands := by rw [ho]; simp [Op.operands]
  refine OpOK.val fun K' B' g1 g2 C ρ F a w hM hS => ?_
  obtain ⟨vs, e1, h1⟩ := hS.ev ((g1 x m1).trans hx)
  obtain ⟨v, hv, hden⟩ := DenL.get _ _ h1 fd.offset s hs
  refine ⟨v, ?_, hden⟩
  have hagg : (Go.isAgg fd.type).run P w = .ok false w := by cases d <;> first | (simp [TypeDesc.isRow] at hrow; done) | simp [Go.isAgg, run_underlying hd]
  have hvs : (List.toArray vs)[fd.offset]? = some v := by simpa using hv
  simp only [execOp, ho, e1, Instr.field, Sem.run_bind, run_underlying hT, Result.andThen_ok, hfd, asAgg, Sem.run_pure, part, hagg, Bool.false_eq_true, if_false, hvs]
theorem cell_arr {n : Nat} {u : U} (g : List (El u)) (i q : Nat) (hq : q < sz u) : cellU (.arr n u) g (i * sz u + q) = cellU u (List.getD g i (dflt u)) q := by
  show cellU u (List.getD g ((i * sz u + q) / sz u) (dflt u)) ((i * sz u + q) % sz u) = _
  rw [show (i * sz u + q) / sz u = i by rw [Nat.mul_comm, Nat.mul_add_div (by omega), Nat.div_eq_of_lt hq, Nat.add_zero], show (i * sz u + q) % sz u = q by rw [Nat.mul_comm, Nat.mul_add_mod, Nat.mod_eq_of_lt hq]]
/-- An array's element: a struct, or an array. -/
theorem opOK_indexArr {o : Oper} {T : TypeId} {x i : Operand} {n e : Nat} {inf : TypeInfo} {d : TypeDesc} {u : U} {g : List (El u)} {j : Int} (ho : o.op = .index T x i) (hT : P.underlying T = some (.array n e)) (he : P.underlying e = some d) (hrow : d.isRow = true) (hi : P.info? e = some inf) (hz : inf.size = sz u)
    (hx : opv K x = .c (.agg (listU (.arr n u) g 0 (n * sz u)))) (hj : opv K i = .c (.one (.d (.int .i64 j)))) (h0 : 0 ≤ j) (h1 : j < n) (N : Nat) : OpOK P N ids o K B (.c (.agg (listU u (List.getD g j.toNat (dflt u)) 0 (sz u)))) ⟨[], [], []⟩ := by
  have m1 : x ∈ o.op.operands := by rw [ho]; simp [Op.operands]
  have m2 : i ∈ o.op.operands := by rw [ho]; simp [Op.operands]
  refine OpOK.val fun K' B' g1 g2 C ρ F a w hM hS => ?_
  obtain ⟨vs, e1, hd⟩ := hS.ev ((g1 x m1).trans hx)
  have e2 := hS.int ((g1 i m2).trans hj)
  have hlen : vs.length = n * sz u := (DenL.length _ _ hd).trans (listU_length (.arr n u) g _ _)
  have hagg : (Go.isAgg e).run P w = .ok true w := by cases d <;> first | (simp [TypeDesc.isRow] at hrow; done) | simp [Go.isAgg, run_underlying he]
  have hsz : (sizeOf e).run P w = .ok (sz u) w := by simp [sizeOf, typeInfo, hi, hz]
  have hle : j.toNat * sz u + sz u ≤ n * sz u := by
    have := Nat.mul_le_mul_right (sz u) (show j.toNat + 1 ≤ n by omega)
    rw [Nat.succ_mul] at this
    exact this
  refine ⟨.agg ((List.toArray vs).extract (j.toNat * sz u) (j.toNat * sz u + sz u)), ?_, (vs.drop (j.toNat * sz u)).take (sz u), by simp [List.extract], ?_⟩
  · simp [execOp, ho, e1, e2, Instr.index, asIntOf, run_underlying hT, h0, h1, hsz, part, hagg]
  · have key : ∀ (m o2 : Nat), o2 + m ≤ sz u → DenL ρ (Imm C B' F w) w (listU u (List.getD g j.toNat (dflt u)) o2 m) ((vs.drop (j.toNat * sz u + o2)).take m) := fun m => by
      induction m with
      | zero => intro o2 _; simp [listU, DenL]
      | succ m ih =>
        intro o2 hm
        have hlt : j.toNat * sz u + o2 < n * sz u := by omega
        obtain ⟨v, hv, hvd⟩ := DenL.get _ _ hd _ _ (listU_get (.arr n u) g (n * sz u) 0 (j.toNat * sz u + o2) hlt)
        have hdrop : vs.drop (j.toNat * sz u + o2) = v :: vs.drop (j.toNat * sz u + (o2 + 1)) := by
          obtain ⟨hl, hv'⟩ := List.getElem?_eq_some_iff.1 hv
          rw [List.drop_eq_getElem_cons hl, hv', Nat.add_assoc]
        rw [hdrop, List.take_succ_cons]
        refine ⟨v, _, rfl, ?_, ih (o2 + 1) (by omega)⟩
        have hc : cellU (.arr n u) g (0 + (j.toNat * sz u + o2)) = cellU u (List.getD g j.toNat (dflt u)) o2 := by
          rw [Nat.zero_add]
          exact cell_arr g _ _ (by omega)
        rw [hc] at hvd
        exact hvd
    exact key (sz u) 0 (by omega)
/-! ### an array of one's own -/
/-- Cells that are a value. -/
theorem Le.toVal (c : Nat) {u : U} {x : El u} (hw : WfU u x) (hc : lookB B c = some (.cells (listU u x 0 (sz u)))) : Le ids K B K ((c, .val u x) :: B) := by
  rintro N C a w ⟨hn, hd, ρ, F, hM, hS⟩
  obtain ⟨hF, vs, T, hb, hden⟩ := hM.holds c _ hc
  obtain ⟨hM', hE⟩ := hM.turn (w' := w) (ch := .val u x) hc (Fr.refl _ _) fun I hI => ⟨hF, vs, T, hb, by rw [DenL.length _ _ hden, listU_length], listU_mk hw (DenL.mono (ρ' := ρ) hI _ _ (fun _ _ => rfl) hden)⟩
  exact ⟨hn, hd, ρ, F, hM', hS.mono hE fun _ _ _ => rfl⟩
theorem opOK_indexVal {o : Oper} {T : TypeId} {x i : Operand} {n e c : Nat} {inf : TypeInfo} {s : Nat} {j : Int} (ho : o.op = .indexAddr T x i) (hT : P.underlying T = some (.array n e)) (hi : P.info? e = some inf) (hz : inf.size = s)
    (hx : opv K x = .c (.one (.ptr c 0))) (hj : opv K i = .c (.one (.d (.int .i64 j)))) (h0 : 0 ≤ j) (h1 : j < n) (N : Nat) : OpOK P N ids o K B (.c (.one (.rp c s j.toNat 0))) ⟨[], [], []⟩ := by
  have m1 : x ∈ o.op.operands := by rw [ho]; simp [Op.operands]
  have m2 : i ∈ o.op.operands := by rw [ho]; simp [Op.operands]
  refine OpOK.val fun K' B' g1 g2 C ρ F a w hM hS => ?_
  have e1 := hS.ptr ((g1 x m1).trans hx)
  have e2 := hS.int ((g1 i m2).trans hj)
  have hsz : (sizeOf e).run P w = .ok s w := by simp [sizeOf, typeInfo, hi, hz]
  refine ⟨.pointer (some ⟨(ρ c).blk, j.toNat * s, none⟩), ?_, rfl⟩
  simp [execOp, ho, e1, e2, Instr.indexAt, asIntOf, run_underlying hT, h0, h1, hsz, Instr.sureAddr, addr_add]
theorem denU_set {I : Nat → Prop} {w : World} {n : Nat} {u : U} {g : List (El u)} {c : Nat → Option Value} (hd : DenU I w (.arr n u) g c) {y : El u} {j : Nat} {cs : List Value} (hl : cs.length = sz u) (hy : DenU I w u y (fun i => cs[i]?)) (hj : j < n) :
    DenU I w (.arr n u) (g.set j y) (fun i => if j * sz u ≤ i ∧ i < j * sz u + sz u then cs[i - j * sz u]? else c i) := by
  obtain ⟨h1, h2⟩ := hd
  refine ⟨by rw [List.length_set]; exact h1, fun i z hz => ?_⟩
  unfold lget at hz
  rw [List.getElem?_set] at hz
  split at hz
  · rename_i e
    subst e
    split at hz
    · injection hz with hz
      subst hz
      refine DenU.mono (Ext.refl _ _) u y _ _ (fun q v hv => ?_) hy
      have hq : q < sz u := by rw [← hl]; exact (List.getElem?_eq_some_iff.1 hv).1
      simp only
      rw [if_pos ⟨by omega, by omega⟩, show j * sz u + q - j * sz u = q by omega]
      exact hv
    · cases hz
  · rename_i hne
    have hwf := h2 i z hz
    rcases Nat.eq_zero_or_pos (sz u) with h0 | h0
    · refine DenU.mono (Ext.refl _ _) u z _ _ (fun q v hv => ?_) hwf
      simp only
      rw [if_neg (by omega)]
      exact hv
    · refine DenU.mk u z _ (DenU.wf u z _ hwf) fun q hq => ?_
      obtain ⟨v, hv, hvd⟩ := DenU.cell u z _ q hwf hq
      refine ⟨v, ?_, hvd⟩
      simp only
      rw [if_neg ?_]
      · exact hv
      · rintro ⟨a1, a2⟩
        rcases Nat.lt_or_gt_of_ne hne with hlt | hgt
        · have := Nat.mul_le_mul_right (sz u) (show j + 1 ≤ i by omega)
          rw [Nat.succ_mul] at this
          omega
        · have := Nat.mul_le_mul_right (sz u) (show i + 1 ≤ j by omega)
          rw [Nat.succ_mul] at this
          omega
theorem opOK_storeVal {o : Oper} {T : TypeId} {x v : Operand} {c n j : Nat} {u : U} {g : List (El u)} {y : El u} {inf : TypeInfo} (ho : o.op = .store T x v) (hi : P.info? T = some inf) (hz : inf.size = sz u) (hx : opv K x = .c (.one (.rp c (sz u) j 0))) (hj : j < n)
    (hc : lookB B c = some (.val (.arr n u) g)) (hv : opv K v = .c (.agg (listU u y 0 (sz u)))) (hw : WfU u y) (N : Nat) : OpOK P N ids o K B .undef ⟨[c], [], [(c, some (.val (.arr n u) (g.set j y)))]⟩ := by
  have m1 : x ∈ o.op.operands := by rw [ho]; simp [Op.operands]
  have m2 : v ∈ o.op.operands := by rw [ho]; simp [Op.operands]
  refine OpOK.turn hc fun K' B' g1 C ρ F a w hM hS hl' => ?_
  obtain ⟨hF, vs, T', hb, hlen, hden⟩ := hM.holds c _ hl'
  have e1 := hS.rp ((g1 x m1).trans hx)
  obtain ⟨us, e2, h2⟩ := hS.ev ((g1 v m2).trans hv)
  have hul : us.length = sz u := by rw [DenL.length _ _ h2, listU_length]
  have hud := listU_mk hw h2
  have hfit : j * sz u + us.length ≤ vs.length := by
    have := Nat.mul_le_mul_right (sz u) (show j + 1 ≤ n by omega)
    rw [Nat.succ_mul] at this
    rw [hlen, hul]
    exact this
  have hone : ∀ z, z ∈ us → z.oneCell' = true := fun z hz => by
    obtain ⟨q, hq, rfl⟩ := List.getElem_of_mem hz
    obtain ⟨z', hz', ho'⟩ := DenU.one u y _ hud q (by omega)
    rw [List.getElem?_eq_getElem hq] at hz'
    injection hz' with hz'
    rw [hz']
    exact ho'
  have hrun := exec_store (P := P) (o := o) (ev := a.eval) (w := w) (us := us) ho (by rw [e1, Nat.add_zero]) (by rw [e2]; rfl) hi (hz.trans hul.symm) hb hfit hone
  have hset : (w.setRow (ρ c).blk (List.toArray (vs.take (j * sz u) ++ us ++ vs.drop (j * sz u + us.length)))).heap[(ρ c).blk]? = some (.cells (List.toArray (vs.take (j * sz u) ++ us ++ vs.drop (j * sz u + us.length))) T' (0, 0)) := setRow_heap w _ _ _ T' _ hb
  refine ⟨_, hrun, ⟨rfl, rfl, rfl, by simp [World.setRow], fun k _ hk => setRow_other w _ k _ (fun e => hk ((hF k).2 e))⟩, fun I hE => ⟨hF, _, T', hset, ?_, ?_⟩⟩
  · rw [List.length_append, List.length_append, List.length_take, List.length_drop]
    omega
  · refine DenU.mk (.arr n u) (g.set j y) _ ?_ ?_
    · have hwg := DenU.wf (.arr n u) g _ hden
      refine ⟨by rw [List.length_set]; exact hwg.1, fun z hz => ?_⟩
      rcases List.mem_or_eq_of_mem_set hz with hz | rfl
      · exact hwg.2 z hz
      · exact hw
    · intro q hq
      have hnew := denU_set hden (y := y) (j := j) hul hud hj
      obtain ⟨z, hz, hzd⟩ := DenU.cell (.arr n u) _ _ q hnew hq
      refine ⟨z, ?_, Den.mono hE _ _ hzd⟩
      rw [← hz]
      have hq' : q < vs.length := by rw [hlen]; exact hq
      split
      · rename_i hin
        rw [List.append_assoc, List.getElem?_append_right (by rw [List.length_take]; omega), List.length_take, List.getElem?_append_left (by omega)]
        congr 1
        omega
      · rename_i hout
        rcases Nat.lt_or_ge q (j * sz u) with hlt | hge
        · rw [List.append_assoc, List.getElem?_append_left (by rw [List.length_take]; omega), List.getElem?_take, if_pos hlt]
        · have : j * sz u + sz u ≤ q := by
            rcases Nat.lt_or_ge q (j * sz u + sz u) with h | h
            · exact absurd ⟨hge, h⟩ hout
            · exact h
          rw [List.getElem?_append_right (by rw [List.length_append, List.length_take]; omega), List.length_append, List.length_take, List.getElem?_drop]
          congr 1
          omega
theorem opOK_loadVal {o : Oper} {T : TypeId} {x : Operand} {c : Nat} {u : U} {y : El u} {inf : TypeInfo} {d : TypeDesc} (ho : o.op = .load T x) (hT : P.underlying T = some d) (hrow : d.isRow = true) (hi : P.info? T = some inf) (hz : inf.size = sz u) (hx : opv K x = .c (.one (.ptr c 0)))
    (hc : lookB B c = some (.val u y)) (N : Nat) : OpOK P N ids o K B (.c (.agg (listU u y 0 (sz u)))) ⟨[c], [], []⟩ := by
  have m1 : x ∈ o.op.operands := by rw [ho]; simp [Op.operands]
  refine OpOK.val fun K' B' g1 g2 C ρ F a w hM hS => ?_
  obtain ⟨hF, vs, T', hb, hlen, hden⟩ := hM.holds c _ ((g2 c (by simp)).trans hc)
  have e1 := hS.ptr ((g1 x m1).trans hx)
  obtain ⟨us, h1, h2⟩ := listU_den (ρ := ρ) hden (sz u) 0 (by omega)
  refine ⟨_, exec_loadn (cs := us) ho e1 hT hrow hi (by rw [DenL.length _ _ h1, listU_length]; exact hz) (fun j v hj => ?_), us, rfl, h1⟩
  have := h2 j v hj
  exact cell_of hb this
/-- A literal without parts: zero. -/
theorem opOK_build0 {tt : Tr} (hP : TblOK P tt) {o : Oper} {T n e : Nat} {ti : TI} (ho : o.op = .build T #[]) (ht : tt.find T = some ti) (hT : P.underlying T = some (.array n e)) {ie : TypeInfo} (hie : P.info? e = some ie) (hrow : ti.row = true) (N : Nat) : OpOK P N ids o K B (.c (.agg ti.zero)) ⟨[], [], []⟩ := by
  refine OpOK.val fun K' B' g1 g2 C ρ F a w hM hS => ?_
  obtain ⟨i, d, hok⟩ := hP.at_ ht
  obtain ⟨z, hz, hzl⟩ := hok.zero
  obtain ⟨z1, z2⟩ := zeroL_den (ρ := ρ) (I := Imm C B' F w) (w := w) _ _ hzl
  refine ⟨.agg z.cells, ?_, z.cells.toList, by simp, z1⟩
  simp [execOp, ho, Instr.build, zeroValue, typeInfo, hok.info, hz, run_underlying hT, sizeOf, hie, Instr.fill]
/-- Numbers, all 0. -/
theorem opOK_makeInts {o : Oper} {T e d : Nat} {x y : Operand} {inf : TypeInfo} {n : Int} (ho : o.op = .makeSlice T x y) (hT : P.underlying T = some (.slice e)) (hi : P.info? e = some inf) (hz : inf.zero = some (.int .i64 0)) (hs : inf.size = 1) (hb : inf.bytes = 8)
    (hx : opv K x = .c (.one (.d (.int .i64 n)))) (hy : opv K y = .c (.one (.d (.int .i64 n)))) (h0 : 0 ≤ n) (h1 : n ≤ 1000000) (N : Nat) : OpOK P N ids o K B (.c (.one (.own d))) ⟨[], [d], [(d, some (.row e (.int .i64) (List.replicate n.toNat (0 : Int))))]⟩ := by
  have m1 : x ∈ o.op.operands := by rw [ho]; simp [Op.operands]
  have m2 : y ∈ o.op.operands := by rw [ho]; simp [Op.operands]
  refine OpOK.make (fun d h => has_own h) fun K' B' g1 g2 C ρ F a w hM hS hn => ?_
  have hx' := hS.int ((g1 x m1).trans hx)
  have hy' := hS.int ((g1 y m2).trans hy)
  have hrun := run_make (P := P) w T e inf _ hT hi hz .i64 .i64 n n h0 (Int.le_refl _) (by rw [hb]; omega) (by omega)
  have hcells : madeCells (Value.int .i64 0).cells (n.toNat * inf.size) = (List.replicate n.toNat (Value.int .i64 0)).toArray := by
    rw [hs]
    simp [madeCells, Value.cells]
    apply Array.ext
    · simp
    · intro i h1 h2
      simp [Nat.mod_one]
  rw [hcells] at hrun
  refine ⟨.slice (some ⟨w.heap.size, 0, none⟩) n.toNat n.toNat, w.alloc (.cells (List.replicate n.toNat (.int .i64 0)).toArray e), ⟨w.heap.size, some ⟨w.heap.size, 0, none⟩, n.toNat, n.toNat⟩, fun b => b = w.heap.size, ?_, alloc_below w _, fun b hb => ?_, fun I hE hI => ⟨⟨?_, ?_, List.replicate n.toNat (.int .i64 0), ?_, ?_⟩, ?_⟩⟩
  · simp only [execOp, ho, Sem.run_bind, hx', hy', hrun, Result.andThen_ok, Sem.run_pure]
  · subst hb; simp
  · intro b
    simp [Pl.hdr, Value.ownBlock, eq_comm]
  · intro b hb
    simp [Pl.hdr, Value.ownBlock] at hb
    exact hb.symm
  · have := ownsRow_new w e 1 n.toNat (List.replicate n.toNat (.int .i64 0)) (by simp) (by simp only [maxLen]; omega)
    have e1 : List.length (α := El (.int .i64)) (List.replicate n.toNat (0 : Int)) = n.toNat := List.length_replicate
    rw [e1]
    exact this
  · intro i z hz
    obtain ⟨hi, hz'⟩ := List.getElem?_eq_some_iff.1 hz
    have hz2 : z = (0 : Int) := by rw [← hz']; exact List.getElem_replicate ..
    subst hz2
    have hi : i < n.toNat := by
      have h1 : i < List.length (α := Int) (List.replicate n.toNat (0 : Int)) := hi
      rw [List.length_replicate] at h1
      exact h1
    show (List.replicate n.toNat (Value.int .i64 0))[i * 1 + 0]? = some (.int .i64 0)
    simp [hi]
  · simp only [DenV, DenC, DenS, upd_same]
    rfl
theorem run_eql_func (w : World) {T : TypeId} {ps rs : Array TypeId} {va : Bool} (hT : P.underlying T = some (.func ps rs va)) (f : Go.Fn) (a b : Array Value) : (binOp .eql T (.func f a b) .nilFunc).run P w = .ok (.bool false) w ∧ (binOp .neq T (.func f a b) .nilFunc).run P w = .ok (.bool true) w := by
  have h0 : ∀ d, (Op.equalIn (d + 1) T (.func f a b) .nilFunc).run P w = .ok false w := fun d => by simp [Op.equalIn, run_underlying hT]
  have h : (Op.equalIn 10000 T (.func f a b) .nilFunc).run P w = .ok false w := h0 9999
  constructor
  · simp only [binOp]
    simp [Op.equal, Op.maxDepth, h]
  · simp only [binOp]
    simp [Op.equal, Op.maxDepth, h]
theorem opOK_fnNil {o : Oper} {T T2 : TypeId} {x : Operand} {op : BinOp} {y : Nat × List Nat} {b : Bool} {ps rs : Array TypeId} {va : Bool} (hop : (op = .eql ∧ b = false) ∨ (op = .neq ∧ b = true)) (ho : o.op = .binOp op T x (.const .nilFunc) T2) (hT : P.underlying T = some (.func ps rs va))
    (hx : opv K x = .c (.one (.d (.fn y)))) (N : Nat) : OpOK P N ids o K B (.c (.one (.d (.lit b)))) ⟨[], [], []⟩ := by
  have m1 : x ∈ o.op.operands := by rw [ho]; simp [Op.operands]
  refine OpOK.val fun K' B' g1 g2 C ρ F a w hM hS => ?_
  have e1 : a.eval x = fnV y := hS.ev ((g1 x m1).trans hx)
  refine ⟨.bool b, ?_, rfl⟩
  have e2 : a.eval (.const .nilFunc) = .nilFunc := rfl
  rcases hop with ⟨rfl, rfl⟩ | ⟨rfl, rfl⟩
  · have h := (run_eql_func (P := P) w hT (.func y.1) #[] (List.toArray (ptrsV y.2))).1
    simp [execOp, ho, e1, e2, eqGuard, fnV, h]
  · have h := (run_eql_func (P := P) w hT (.func y.1) #[] (List.toArray (ptrsV y.2))).2
    simp [execOp, ho, e1, e2, eqGuard, fnV, h]
theorem run_eql_nilfunc (w : World) {T : TypeId} {ps rs : Array TypeId} {va : Bool} (hT : P.underlying T = some (.func ps rs va)) : (binOp .eql T .nilFunc .nilFunc).run P w = .ok (.bool true) w ∧ (binOp .neq T .nilFunc .nilFunc).run P w = .ok (.bool false) w := by
  have h0 : ∀ d, (Op.equalIn (d + 1) T .nilFunc .nilFunc).run P w = .ok true w := fun d => by simp [Op.equalIn, run_underlying hT]
  have h : (Op.equalIn 10000 T .nilFunc .nilFunc).run P w = .ok true w := h0 9999
  constructor
  · simp only [binOp]
    simp [Op.equal, Op.maxDepth, h]
  · simp only [binOp]
    simp [Op.equal, Op.maxDepth, h]
/-- Is a function nil? -/
theorem opOK_funNil {o : Oper} {T T2 : TypeId} {x : Operand} {op : BinOp} {s : S1} {b : Bool} {ps rs : Array TypeId} {va : Bool} (hop : (op = .eql ∧ b = false) ∨ (op = .neq ∧ b = true)) (ho : o.op = .binOp op T x (.const .nilFunc) T2) (hT : P.underlying T = some (.func ps rs va)) {f : FuncId} {l : List Cap}
    (hx : opv K x = .c (.one (.clo f l))) (N : Nat) : OpOK P N ids o K B (.c (.one (.d (.lit b)))) ⟨[], [], []⟩ := by
  have m1 : x ∈ o.op.operands := by rw [ho]; simp [Op.operands]
  refine OpOK.val fun K' B' g1 g2 C ρ F a w hM hS => ?_
  obtain ⟨vs, e1, h1⟩ := hS.ev ((g1 x m1).trans hx)
  refine ⟨.bool b, ?_, rfl⟩
  have e2 : a.eval (.const .nilFunc) = .nilFunc := rfl
  rcases hop with ⟨rfl, rfl⟩ | ⟨rfl, rfl⟩
  · have h := (run_eql_func (P := P) w hT (.func f) #[] (List.toArray vs)).1
    simp [execOp, ho, e1, e2, eqGuard, h]
  · have h := (run_eql_func (P := P) w hT (.func f) #[] (List.toArray vs)).2
    simp [execOp, ho, e1, e2, eqGuard, h]
theorem opOK_nilNil {o : Oper} {T T2 : TypeId} {x : Operand} {op : BinOp} {b : Bool} {ps rs : Array TypeId} {va : Bool} (hop : (op = .eql ∧ b = true) ∨ (op = .neq ∧ b = false)) (ho : o.op = .binOp op T x (.const .nilFunc) T2) (hT : P.underlying T = some (.func ps rs va))
    (hx : opv K x = .c (.one (.raw .nilFunc))) (N : Nat) : OpOK P N ids o K B (.c (.one (.d (.lit b)))) ⟨[], [], []⟩ := by
  have m1 : x ∈ o.op.operands := by rw [ho]; simp [Op.operands]
  refine OpOK.val fun K' B' g1 g2 C ρ F a w hM hS => ?_
  have e1 := hS.raw ((g1 x m1).trans hx)
  refine ⟨.bool b, ?_, rfl⟩
  have e2 : a.eval (.const .nilFunc) = .nilFunc := rfl
  rcases hop with ⟨rfl, rfl⟩ | ⟨rfl, rfl⟩
  · have h := (run_eql_nilfunc (P := P) w hT).1
    simp [execOp, ho, e1, e2, eqGuard, h]
  · have h := (run_eql_nilfunc (P := P) w hT).2
    simp [execOp, ho, e1, e2, eqGuard, h]
end
end Go.Proofs.YtolaecebfkdbcaaGreat
