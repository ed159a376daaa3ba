/-
  Soundness of the conditions, operation by operation: what is said of the tables of types; operations that yield a value and leave the world alone.
-/
import Derived.Test.YthghcdddambaeaaVc
import Derived.Deep.MidRow
set_option linter.unusedVariables false
set_option linter.unusedSimpArgs false
namespace Go.Proofs.Ythghcdddambaeaa
open Go.RowKit

/-! ### the tables -/
def kdOK : Option TypeDesc → Kd → Bool
  | some (.int k), .int k' => eqK k k'
  | some .bool, .bool => true
  | some .string, .str => true
  | some (.pointer e), .ptr e' => Nat.beq e e'
  | some (.slice e), .sl e' => Nat.beq e e'
  | some (.struct _), .st => true
  | some (.array _ e), .arr e' => Nat.beq e e'
  | some (.map k e), .mp k' e' => Nat.beq k k' && Nat.beq e e'
  | _, _ => false
def zeroS : Value → S1 → Bool
  | .int k n, .d (.int k' n') => eqK k k' && decide (n = n')
  | .bool b, .d (.lit b') => b == b'
  | .string s, .d (.str l) => decide (s.data.toList = l)
  | .slice none 0 0, .nils => true
  | .pointer none, .raw (.pointer none) => true
  | .map none, .raw (.map none) => true
  | _, _ => false
def zeroL : List Value → List S1 → Bool
  | [], [] => true
  | v :: vs, s :: l => zeroS v s && zeroL vs l
  | _, _ => false
def offsL (P : Program) : List Field → List (Nat × Nat) → Bool
  | [], [] => true
  | f :: fs, (d, n) :: l => Nat.beq f.offset d && (match P.info? f.type with
    | some i => Nat.beq i.size n
    | none => false) && !Nat.beq n 0 && offsL P fs l
  | _, _ => false
def tiChk (P : Program) (T : Nat) (ti : TI) : Bool := match P.info? T, P.underlying T with
  | some i, some d => Nat.beq i.size ti.size && Nat.beq i.bytes ti.bytes && (d.isRow == ti.row) && kdOK (some d) ti.kd && (match i.zero with
    | some z => zeroL z.cells.toList ti.zero
    | none => false) && (match d with
    | .struct fs => offsL P fs.toList ti.offs
    | _ => true) && Nat.ble ti.bytes 32768 && (match ti.u with
    | some u => Nat.beq (sz u) ti.size
    | none => true) && !Nat.beq ti.size 0 && Nat.beq ti.zero.length ti.size
  | _, _ => false
def Tr.all (p : Nat → TI → Bool) : Tr → Bool
  | .leaf => true
  | .node l k x r => l.all p && p k x && r.all p
theorem Tr.all_find {p : Nat → TI → Bool} : ∀ (t : Tr), t.all p = true → ∀ T ti, t.find T = some ti → p T ti = true
  | .leaf, _, T, ti, h => by simp [Tr.find] at h
  | .node l k x r, ha, T, ti, h => by
    simp only [Tr.all, Bool.and_eq_true] at ha
    unfold Tr.find at h
    split at h
    · exact Tr.all_find l ha.1.1 T ti h
    · split at h
      · rename_i e
        have := Nat.eq_of_beq_eq_true e
        injection h with h
        subst this h
        exact ha.1.2
      · exact Tr.all_find r ha.2 T ti h
def TblOK (P : Program) (tt : Tr) : Prop := ∀ T ti, tt.find T = some ti → tiChk P T ti = true
theorem TblOK.of {P : Program} {tt : Tr} (h : tt.all (tiChk P) = true) : TblOK P tt := Tr.all_find tt h
theorem eqK_eq {i j : IntKind} (h : eqK i j = true) : i = j := by cases i <;> cases j <;> first | rfl | (simp [eqK] at h)
structure TIok (P : Program) (T : Nat) (ti : TI) (i : TypeInfo) (d : TypeDesc) : Prop where
  info : P.info? T = some i
  und : P.underlying T = some d
  size : i.size = ti.size
  bytes : i.bytes = ti.bytes
  row : d.isRow = ti.row
  kd : kdOK (some d) ti.kd = true
  zero : ∃ z, i.zero = some z ∧ zeroL z.cells.toList ti.zero = true
  offs : ∀ fs, d = .struct fs → offsL P fs.toList ti.offs = true
  small : ti.bytes ≤ 32768
  u : ∀ u, ti.u = some u → sz u = ti.size
  pos : ti.size ≠ 0
  zlen : ti.zero.length = ti.size
theorem TblOK.at_ {P : Program} {tt : Tr} (h : TblOK P tt) {T : Nat} {ti : TI} (hf : tt.find T = some ti) : ∃ i d, TIok P T ti i d := by
  have hc := h T ti hf
  unfold tiChk at hc
  split at hc
  · rename_i i d hi hd
    simp only [Bool.and_eq_true, Bool.not_eq_true', beq_iff_eq] at hc
    obtain ⟨⟨⟨⟨⟨⟨⟨⟨⟨h1, h2⟩, h3⟩, h4⟩, h5⟩, h6⟩, h7⟩, h8⟩, h9⟩, h10⟩ := hc
    refine ⟨i, d, hi, hd, Nat.eq_of_beq_eq_true h1, Nat.eq_of_beq_eq_true h2, h3, h4, ?_, ?_, Nat.le_of_ble_eq_true h7, ?_, fun e => by rw [e] at h9; simp at h9, Nat.eq_of_beq_eq_true h10⟩
    · split at h5
      · rename_i z hz
        exact ⟨z, hz, h5⟩
      · cases h5
    · rintro fs rfl
      exact h6
    · intro u hu
      rw [hu] at h8
      exact Nat.eq_of_beq_eq_true h8
  · cases hc
theorem TIok.sl {P : Program} {T : Nat} {ti : TI} {i : TypeInfo} {d : TypeDesc} (h : TIok P T ti i d) {e : Nat} (hk : ti.kd = .sl e) : P.underlying T = some (.slice e) := by
  have := h.kd
  rw [hk] at this
  rw [h.und]
  cases d <;> simp [kdOK] at this ⊢
  exact this
theorem TIok.str {P : Program} {T : Nat} {ti : TI} {i : TypeInfo} {d : TypeDesc} (h : TIok P T ti i d) (hk : ti.kd = .str) : P.underlying T = some .string := by
  have := h.kd
  rw [hk] at this
  rw [h.und]
  cases d <;> simp [kdOK] at this ⊢
theorem TIok.int {P : Program} {T : Nat} {ti : TI} {i : TypeInfo} {d : TypeDesc} (h : TIok P T ti i d) {k : IntKind} (hk : ti.kd = .int k) : P.underlying T = some (.int k) := by
  have := h.kd
  rw [hk] at this
  rw [h.und]
  cases d <;> simp [kdOK] at this ⊢
  exact eqK_eq this
theorem TIok.ptr {P : Program} {T : Nat} {ti : TI} {i : TypeInfo} {d : TypeDesc} (h : TIok P T ti i d) {e : Nat} (hk : ti.kd = .ptr e) : P.underlying T = some (.pointer e) := by
  have := h.kd
  rw [hk] at this
  rw [h.und]
  cases d <;> simp [kdOK] at this ⊢
  exact this
theorem TIok.st {P : Program} {T : Nat} {ti : TI} {i : TypeInfo} {d : TypeDesc} (h : TIok P T ti i d) (hk : ti.kd = .st) : ∃ fs, P.underlying T = some (.struct fs) ∧ d = .struct fs := by
  have := h.kd
  rw [hk] at this
  rw [h.und]
  cases d <;> simp [kdOK] at this ⊢
theorem offsL_get {P : Program} : ∀ (fs : List Field) (l : List (Nat × Nat)), offsL P fs l = true → ∀ (f d n : Nat), l[f]? = some (d, n) → ∃ fd i, fs[f]? = some fd ∧ fd.offset = d ∧ P.info? fd.type = some i ∧ i.size = n ∧ n ≠ 0
  | [], [], _, f, d, n, h => by simp at h
  | g :: fs, (a, b) :: l, ho, 0, d, n, h => by
    simp only [offsL, Bool.and_eq_true, Bool.not_eq_true'] at ho
    simp only [List.getElem?_cons_zero, Option.some.injEq, Prod.mk.injEq] at h
    obtain ⟨rfl, rfl⟩ := h
    obtain ⟨⟨⟨h1, h2⟩, h3⟩, _⟩ := ho
    split at h2
    · rename_i i hi
      exact ⟨g, i, rfl, Nat.eq_of_beq_eq_true h1, hi, Nat.eq_of_beq_eq_true h2, fun e => by subst e; simp at h3⟩
    · cases h2
  | g :: fs, (a, b) :: l, ho, f + 1, d, n, h => by
    simp only [offsL, Bool.and_eq_true] at ho
    simpa using offsL_get fs l ho.2 f d n (by simpa using h)
  | [], _ :: _, ho, _, _, _, _ => by simp [offsL] at ho
  | _ :: _, [], ho, _, _, _, _ => by simp [offsL] at ho

/-! ### what is to be shown of an operation -/
section
variable {P : Program} {tt : Tr} {N : Nat} {ids : List Nat} {o : Oper} {K : KL} {B : BL}
/-- An operation that yields a value and leaves the world alone. -/
theorem OpOK.val {v : SV} {rc : List Nat} (h : ∀ (K' : KL) (B' : BL), (∀ x, x ∈ o.op.operands → opv K' x = opv K x) → (∀ c, c ∈ rc → lookB B' c = lookB B c) →
    ∀ (C : Ctx) (ρ : Nat → Pl) (F : Nat → Nat → Prop) (a : Act) (w : World), Mem ids C B' ρ F w → Slots K' ρ (Imm C B' F w) a w → ∃ x, (execOp a.eval o).run P w = .ok (.value x) w ∧ DenV ρ (Imm C B' F w) w v x) :
    OpOK P N ids o K B v ⟨rc, [], []⟩ := by
  rintro K' B' h1 h2 - C a w ⟨hn, hd, ρ, F, hM, hS⟩ hlt Kn Q hK
  obtain ⟨x, hx, hv⟩ := h K' B' h1 h2 C ρ F a w hM hS
  unfold Oper.wp
  rw [hx, Oper.upon_value]
  exact hK _ _ ⟨put_size.trans hn, put_defers.trans hd, ρ, F, hM, hS.putO (fun e he => by rw [hn]; exact hlt e he) hv⟩
/-- An operation that yields a value over new blocks that nobody will write. -/
theorem OpOK.new {v : SV} {rc : List Nat} (h : ∀ (K' : KL) (B' : BL), (∀ x, x ∈ o.op.operands → opv K' x = opv K x) → (∀ c, c ∈ rc → lookB B' c = lookB B c) →
    ∀ (C : Ctx) (ρ : Nat → Pl) (F : Nat → Nat → Prop) (a : Act) (w : World), Mem ids C B' ρ F w → Slots K' ρ (Imm C B' F w) a w → ∃ x w', (execOp a.eval o).run P w = .ok (.value x) w' ∧ Below w.heap.size w w' ∧
      (∀ I : Nat → Prop, Ext (Imm C B' F w) w I w' → (∀ b, w.heap.size ≤ b → b < w'.heap.size → I b) → DenV ρ I w' v x)) :
    OpOK P N ids o K B v ⟨rc, [], []⟩ := by
  rintro K' B' h1 h2 - C a w ⟨hn, hd, ρ, F, hM, hS⟩ hlt Kn Q hK
  obtain ⟨x, w', hx, hb, hv⟩ := h K' B' h1 h2 C ρ F a w hM hS
  obtain ⟨hM', he⟩ := hM.below hb
  unfold Oper.wp
  rw [hx, Oper.upon_value]
  refine hK _ _ ⟨put_size.trans hn, put_defers.trans hd, ρ, F, hM', (hS.mono he fun _ _ _ => rfl).putO (fun e he => by rw [hn]; exact hlt e he) (hv _ he fun b h1 h2 => ⟨h2, ?_, fun c ch hc hF => ?_⟩)⟩
  · exact .inr (.inr (Nat.le_trans hM.fr.size h1))
  · have := (hM.own c ch hc b hF).1; omega

/-! ### what a slot has -/
section
variable {K' : KL} {ρ : Nat → Pl} {I : Nat → Prop} {a : Act} {w : World} {x : Operand}
theorem Slots.ev (hS : Slots K' ρ I a w) {s : SV} (h : opv K' x = s) : DenV ρ I w s (a.eval x) := h ▸ hS.get x
theorem Slots.int (hS : Slots K' ρ I a w) {k : IntKind} {n : Int} (h : opv K' x = .c (.one (.d (.int k n)))) : a.eval x = .int k n := hS.ev h
theorem Slots.lit (hS : Slots K' ρ I a w) {b : Bool} (h : opv K' x = .c (.one (.d (.lit b)))) : a.eval x = .bool b := hS.ev h
theorem Slots.bool (hS : Slots K' ρ I a w) {b : Bool} (h : opv K' x = .c (.one (.d (.bool b)))) : a.eval x = .bool b := hS.ev h
theorem Slots.str (hS : Slots K' ρ I a w) {s : List UInt8} (h : opv K' x = .c (.one (.d (.str s)))) : a.eval x = .string ⟨s.toArray⟩ := hS.ev h
theorem Slots.ptr (hS : Slots K' ρ I a w) {c o : Nat} (h : opv K' x = .c (.one (.ptr c o))) : a.eval x = .pointer (some ⟨(ρ c).blk, o, none⟩) := hS.ev h
theorem Slots.rp (hS : Slots K' ρ I a w) {c s i o : Nat} (h : opv K' x = .c (.one (.rp c s i o))) : a.eval x = .pointer (some ⟨(ρ c).blk, i * s + o, none⟩) := hS.ev h
theorem Slots.os (hS : Slots K' ρ I a w) {c s o n : Nat} (h : opv K' x = .c (.one (.os c s o n))) : a.eval x = .slice (if (ρ c).cap = o then (ρ c).A else (ρ c).A.map (·.add (o * s))) n ((ρ c).cap - o) := hS.ev h
theorem Slots.raw (hS : Slots K' ρ I a w) {v : Value} (h : opv K' x = .c (.one (.raw v))) : a.eval x = v := hS.ev h
theorem Slots.own (hS : Slots K' ρ I a w) {c : Nat} (h : opv K' x = .c (.one (.own c))) : a.eval x = (ρ c).hdr := hS.ev h
theorem Slots.nils (hS : Slots K' ρ I a w) (h : opv K' x = .c (.one .nils)) : a.eval x = .slice none 0 0 := hS.ev h
theorem Slots.lst (hS : Slots K' ρ I a w) {u : U} {xs : List (El u)} (h : opv K' x = .c (.one (.d (.lst u xs)))) : DenU I w (.sl u) xs (fun _ => some (a.eval x)) := hS.ev h
end

/-! ### numbers -/
theorem wrap_in {k : IntKind} {n : Int} (h : inK k n) : k.wrap n = n := by
  cases k <;> simp only [inK] at h <;> simp [IntKind.wrap, IntKind.bits, IntKind.signed] <;> omega
theorem mem2 {x y : Operand} {op : BinOp} {T T2 : TypeId} : x ∈ (Op.binOp op T x y T2).operands ∧ y ∈ (Op.binOp op T x y T2).operands := by simp [Op.operands]
theorem toList_mk (l : List UInt8) : (⟨l.toArray⟩ : ByteArray).toList = l := by rw [ByteArray.toList_eq]
theorem size_mk (l : List UInt8) : (⟨l.toArray⟩ : ByteArray).size = l.length := by simp [ByteArray.size]
theorem bin_int {op : BinOp} {T T2 : TypeId} {x y : Operand} {a : Act} {w : World} {k : IntKind} {n m r : Int} (ho : o.op = .binOp op T x y T2) (h1 : a.eval x = .int k n) (h2 : a.eval y = .int k m)
    (h : (op = .add ∧ r = n + m) ∨ (op = .sub ∧ r = n - m) ∨ (op = .mul ∧ r = n * m)) (hr : inK k r) : (execOp a.eval o).run P w = .ok (.value (.int k r)) w := by
  simp only [execOp, ho, h1, h2]
  rcases h with ⟨rfl, rfl⟩ | ⟨rfl, rfl⟩ | ⟨rfl, rfl⟩ <;> simp [eqGuard, go_sem, wrap_in hr, Op.intArith]
theorem bin_div {op : BinOp} {T T2 : TypeId} {x y : Operand} {a : Act} {w : World} {k : IntKind} {n m r : Int} (ho : o.op = .binOp op T x y T2) (h1 : a.eval x = .int k n) (h2 : a.eval y = .int k m)
    (hn : 0 ≤ n) (hm : 0 < m) (h : (op = .quo ∧ r = n / m) ∨ (op = .rem ∧ r = n % m)) (hr : inK k r) : (execOp a.eval o).run P w = .ok (.value (.int k r)) w := by
  have hm0 : m ≠ 0 := by omega
  simp only [execOp, ho, h1, h2]
  rcases h with ⟨rfl, rfl⟩ | ⟨rfl, rfl⟩
  · have e : n.tdiv m = n / m := Int.tdiv_eq_ediv_of_nonneg hn
    simp [eqGuard, go_sem, Op.intDiv, hm0, e, wrap_in hr]
  · have e : n.tmod m = n % m := Int.tmod_eq_emod_of_nonneg hn
    simp [eqGuard, go_sem, Op.intDiv, hm0, e]
theorem bin_cmp {op : BinOp} {T T2 : TypeId} {x y : Operand} {a : Act} {w : World} {k : IntKind} {n m : Int} {b : Bool} (ho : o.op = .binOp op T x y T2) (h1 : a.eval x = .int k n) (h2 : a.eval y = .int k m)
    (h : (op = .eql ∧ b = decide (n = m)) ∨ (op = .neq ∧ b = !decide (n = m)) ∨ (op = .lss ∧ b = decide (n < m)) ∨ (op = .leq ∧ b = decide (n ≤ m)) ∨ (op = .gtr ∧ b = decide (m < n)) ∨ (op = .geq ∧ b = decide (m ≤ n))) :
    (execOp a.eval o).run P w = .ok (.value (.bool b)) w := by
  simp only [execOp, ho, h1, h2]
  rcases h with ⟨rfl, rfl⟩ | ⟨rfl, rfl⟩ | ⟨rfl, rfl⟩ | ⟨rfl, rfl⟩ | ⟨rfl, rfl⟩ | ⟨rfl, rfl⟩
  all_goals
    simp [eqGuard, go_sem, Op.intCmp]
  all_goals
    by_cases e : n = m <;> simp [e]
theorem bin_shift {op : BinOp} {T T2 : TypeId} {x y : Operand} {a : Act} {w : World} {k k2 : IntKind} {n m r : Int} (ho : o.op = .binOp op T x y T2) (h1 : a.eval x = .int k n) (h2 : a.eval y = .int k2 m)
    (hn : 0 ≤ n) (hm : 0 ≤ m) (hb : m.toNat ≤ k.bits) (h : (op = .shl ∧ r = n * (2 ^ m.toNat : Nat)) ∨ (op = .shr ∧ r = n / (2 ^ m.toNat : Nat))) (hr : op = .shl → inK k r) : (execOp a.eval o).run P w = .ok (.value (.int k r)) w := by
  have hm0 : ¬ m < 0 := by omega
  have e0 : min m.toNat k.bits = m.toNat := by omega
  simp only [execOp, ho, h1, h2]
  rcases h with ⟨rfl, rfl⟩ | ⟨rfl, rfl⟩
  · have e := wrap_in (hr rfl)
    simp only [Int.natCast_pow, Int.cast_ofNat_Int] at e ⊢
    have hs : Op.shift .shl k n k2 m = pure (.int k (n * 2 ^ m.toNat)) := by
      unfold Op.shift
      rw [if_neg hm0, e0]
      simp only
      rw [e]
    simp only [eqGuard, binOp, hs]
    simp [go_sem]
  · have e : n.fdiv (2 ^ m.toNat) = n / (2 ^ m.toNat) := by rw [Int.fdiv_eq_ediv_of_nonneg]; exact Int.pow_nonneg (by decide)
    simp only [Int.natCast_pow, Int.cast_ofNat_Int]
    have hs : Op.shift .shr k n k2 m = pure (.int k (n / 2 ^ m.toNat)) := by
      unfold Op.shift
      rw [if_neg hm0, e0]
      simp only
      rw [e]
    simp only [eqGuard, binOp, hs]
    simp [go_sem]
theorem bin_str {op : BinOp} {T T2 : TypeId} {x y : Operand} {a : Act} {w : World} {s t : List UInt8} {b : Bool} (ho : o.op = .binOp op T x y T2) (h1 : a.eval x = .string ⟨s.toArray⟩) (h2 : a.eval y = .string ⟨t.toArray⟩)
    (h : (op = .eql ∧ b = decide (s = t)) ∨ (op = .neq ∧ b = !decide (s = t)) ∨ (op = .lss ∧ b = Op.bytesLess s t) ∨ (op = .leq ∧ b = (Op.bytesLess s t || decide (s = t))) ∨ (op = .gtr ∧ b = !(Op.bytesLess s t || decide (s = t))) ∨ (op = .geq ∧ b = !Op.bytesLess s t)) :
    (execOp a.eval o).run P w = .ok (.value (.bool b)) w := by
  have e : (s == t) = decide (s = t) := by by_cases e : s = t <;> simp [e]
  simp only [execOp, ho, h1, h2]
  rcases h with ⟨rfl, rfl⟩ | ⟨rfl, rfl⟩ | ⟨rfl, rfl⟩ | ⟨rfl, rfl⟩ | ⟨rfl, rfl⟩ | ⟨rfl, rfl⟩ <;> simp [eqGuard, go_sem, Op.stringOp, toList_mk, e]
theorem append_mk (s t : List UInt8) : (⟨s.toArray⟩ : ByteArray) ++ ⟨t.toArray⟩ = ⟨(s ++ t).toArray⟩ := by
  have : ((⟨s.toArray⟩ : ByteArray) ++ ⟨t.toArray⟩).data = (s ++ t).toArray := by
    simp [ByteArray.data_append]
  cases h : (⟨s.toArray⟩ : ByteArray) ++ ⟨t.toArray⟩
  rw [h] at this
  simp only at this
  rw [this]
theorem bin_cat {T T2 : TypeId} {x y : Operand} {a : Act} {w : World} {s t : List UInt8} (ho : o.op = .binOp .add T x y T2) (h1 : a.eval x = .string ⟨s.toArray⟩) (h2 : a.eval y = .string ⟨t.toArray⟩)
    (h : s.length + t.length ≤ 4294967296) : (execOp a.eval o).run P w = .ok (.value (.string ⟨(s ++ t).toArray⟩)) w := by
  simp only [execOp, ho, h1, h2]
  have hn : ¬ (((s.length + t.length : Nat) : Int) > IntKind.i64.max) := by
    have : IntKind.i64.max = 9223372036854775807 := by decide
    omega
  simp only [eqGuard, binOp, Op.stringOp, size_mk, append_mk]
  rw [if_neg hn]
  simp [go_sem]
end
end Go.Proofs.Ythghcdddambaeaa
