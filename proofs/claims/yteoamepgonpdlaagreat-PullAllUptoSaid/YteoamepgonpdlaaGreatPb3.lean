/-
Part 3 of the proof that stands in YteoamepgonpdlaaGreatPbRow, with what it needs from the parts ahead; the parts of this text: Snd.
-/
import Derived.Deep.MidRow
import Derived.Test.YteoamepgonpdlaaGreatPb2
/-!
  Soundness of the conditions, operation by operation: what is said of the tables of types; operations that yield a value and leave the world alone.
-/
namespace Go.Proofs.YteoamepgonpdlaaGreat
set_option linter.unusedVariables false
set_option linter.unusedSimpArgs false
open Go.RowKit
/-! ### the tables -/
def kdOK : Option TypeDesc → Kd → Bool
 | some (.int k),.int k'=>eqK k k'
 | some .bool,.bool=>true
 | some .string,.str=>true
 | some (.pointer e),.ptr e'=>Nat.beq e e'
 | some (.slice e),.sl e'=>Nat.beq e e'
 | some (.struct _),.st=>true
 | some (.array n e),.arr n' e'=>Nat.beq n n' && Nat.beq e e'
 | some (.map k e),.mp k' e'=>Nat.beq k k' && Nat.beq e e'
 | some (.func _ _ _),.other=>true
 | _,_=>false
def zeroS : Value → S1 → Bool
 | .int k n,.d (.int k' n')=>eqK k k' && decide (n = n')
 | .bool b,.d (.lit b')=>b == b'
 | .string s,.d (.str l)=>decide (s.data.toList = l)
 | .slice none 0 0,.nils=>true
 | .pointer none,.raw (.pointer none)=>true
 | .map none,.raw (.map none)=>true
 | .nilFunc,.raw .nilFunc=>true
 | _,_=>false
def zeroL : List Value → List S1 → Bool
 | [],[]=>true
 | v :: vs,s :: l=>zeroS v s && zeroL vs l
 | _,_=>false
def offsL (P : Program) : List Field → List (Nat × Nat) → Bool
 | [],[]=>true
 | f :: fs,(d,n) :: l=>Nat.beq f.offset d && (match P.info? f.type with
   | some i=>Nat.beq i.size n
   | none=>false) && !Nat.beq n 0 && offsL P fs l
 | _,_=>false
def aggOK : Value → Bool → Bool
 | .agg _,false=>false
 | _,_=>true
def tiChk (P : Program) (T : Nat) (ti : TI) : Bool:=match P.info? T,P.underlying T with
 | some i,some d=>Nat.beq i.size ti.size && Nat.beq i.bytes ti.bytes && (d.isRow == ti.row) && kdOK (some d) ti.kd && (match i.zero with
   | some z=>zeroL z.cells.toList ti.zero && aggOK z d.isRow
   | none=>false) && (match d with
   | .struct fs=>offsL P fs.toList ti.offs
   | _=>true) && Nat.ble ti.bytes 32768 && (match ti.u with
   | some u=>Nat.beq (sz u) ti.size
   | none=>true) && !Nat.beq ti.size 0 && Nat.beq ti.zero.length ti.size
 | _,_=>false
def Tr.all (p : Nat → TI → Bool) : Tr → Bool
 | .leaf=>true
 | .node l k x r=>l.all p && p k x && r.all p
theorem Tr.all_find {p : Nat → TI → Bool} : ∀ (t : Tr),t.all p = true → ∀ T ti,t.find T = some ti → p T ti = true
 | .leaf,_,T,ti,h=>by simp [Tr.find] at h
 | .node l k x r,ha,T,ti,h=>by
   simp only [Tr.all,Bool.and_eq_true] at ha
   unfold Tr.find at h
   split at h
   · exact Tr.all_find l ha.1.1 T ti h
   · split at h
     · rename_i e
       have:=Nat.eq_of_beq_eq_true e
       injection h with h
       subst this h
       exact ha.1.2
     · exact Tr.all_find r ha.2 T ti h
def TblOK (P : Program) (tt : Tr) : Prop:=∀ T ti,tt.find T = some ti → tiChk P T ti = true
theorem TblOK.of {P : Program} {tt : Tr} (h : tt.all (tiChk P) = true) : TblOK P tt:=Tr.all_find tt h
theorem eqK_eq {i j : IntKind} (h : eqK i j = true) : i = j:=by cases i <;> cases j <;> first | rfl | (simp [eqK] at h)
structure TIok (P : Program) (T : Nat) (ti : TI) (i : TypeInfo) (d : TypeDesc) : Prop where
 info : P.info? T = some i
 und : P.underlying T = some d
 size : i.size = ti.size
 bytes : i.bytes = ti.bytes
 row : d.isRow = ti.row
 kd : kdOK (some d) ti.kd = true
 zero : ∃ z,i.zero = some z ∧ zeroL z.cells.toList ti.zero = true
 offs : ∀ fs,d = .struct fs → offsL P fs.toList ti.offs = true
 small : ti.bytes ≤ 32768
 u : ∀ u,ti.u = some u → sz u = ti.size
 pos : ti.size ≠ 0
 zlen : ti.zero.length = ti.size
 zone : ∀ z,i.zero = some z → d.isRow = false → z.cells = #[z]
theorem TblOK.at_ {P : Program} {tt : Tr} (h : TblOK P tt) {T : Nat} {ti : TI} (hf : tt.find T = some ti) : ∃ i d,TIok P T ti i d:=by
 have hc:=h T ti hf
 unfold tiChk at hc
 split at hc
 · rename_i i d hi hd
   simp only [Bool.and_eq_true,Bool.not_eq_true',beq_iff_eq] at hc
   obtain ⟨⟨⟨⟨⟨⟨⟨⟨⟨h1,h2⟩,h3⟩,h4⟩,h5⟩,h6⟩,h7⟩,h8⟩,h9⟩,h10⟩:=hc
   refine ⟨i,d,hi,hd,Nat.eq_of_beq_eq_true h1,Nat.eq_of_beq_eq_true h2,h3,h4,?_,?_,Nat.le_of_ble_eq_true h7,?_,fun e=>by rw [e] at h9; simp at h9,Nat.eq_of_beq_eq_true h10,?_⟩
   · split at h5
     · rename_i z hz
       exact ⟨z,hz,(Bool.and_eq_true _ _ ▸ h5).1⟩
     · cases h5
   · rintro fs rfl
     exact h6
   · intro u hu
     rw [hu] at h8
     exact Nat.eq_of_beq_eq_true h8
   · intro z hz hr
     rw [hz] at h5
     simp only [Bool.and_eq_true] at h5
     have h5:=h5.2
     rw [hr] at h5
     cases z <;> first | rfl | (simp [aggOK] at h5)
 · cases hc
theorem TIok.sl {P : Program} {T : Nat} {ti : TI} {i : TypeInfo} {d : TypeDesc} (h : TIok P T ti i d) {e : Nat} (hk : ti.kd = .sl e) : P.underlying T = some (.slice e):=by
 have:=h.kd
 rw [hk] at this
 rw [h.und]
 cases d <;> simp [kdOK] at this ⊢
 exact this
theorem TIok.str {P : Program} {T : Nat} {ti : TI} {i : TypeInfo} {d : TypeDesc} (h : TIok P T ti i d) (hk : ti.kd = .str) : P.underlying T = some .string:=by
 have:=h.kd
 rw [hk] at this
 rw [h.und]
 cases d <;> simp [kdOK] at this ⊢
theorem TIok.int {P : Program} {T : Nat} {ti : TI} {i : TypeInfo} {d : TypeDesc} (h : TIok P T ti i d) {k : IntKind} (hk : ti.kd = .int k) : P.underlying T = some (.int k):=by
 have:=h.kd
 rw [hk] at this
 rw [h.und]
 cases d <;> simp [kdOK] at this ⊢
 exact eqK_eq this
theorem TIok.ptr {P : Program} {T : Nat} {ti : TI} {i : TypeInfo} {d : TypeDesc} (h : TIok P T ti i d) {e : Nat} (hk : ti.kd = .ptr e) : P.underlying T = some (.pointer e):=by
 have:=h.kd
 rw [hk] at this
 rw [h.und]
 cases d <;> simp [kdOK] at this ⊢
 exact this
theorem TIok.st {P : Program} {T : Nat} {ti : TI} {i : TypeInfo} {d : TypeDesc} (h : TIok P T ti i d) (hk : ti.kd = .st) : ∃ fs,P.underlying T = some (.struct fs) ∧ d = .struct fs:=by
 have:=h.kd
 rw [hk] at this
 rw [h.und]
 cases d <;> simp [kdOK] at this ⊢
theorem offsL_get {P : Program} : ∀ (fs : List Field) (l : List (Nat × Nat)),offsL P fs l = true → ∀ (f d n : Nat),l[f]? = some (d,n) → ∃ fd i,fs[f]? = some fd ∧ fd.offset = d ∧ P.info? fd.type = some i ∧ i.size = n ∧ n ≠ 0
 | [],[],_,f,d,n,h=>by simp at h
 | g :: fs,(a,b) :: l,ho,0,d,n,h=>by
   simp only [offsL,Bool.and_eq_true,Bool.not_eq_true'] at ho
   simp only [List.getElem?_cons_zero,Option.some.injEq,Prod.mk.injEq] at h
   obtain ⟨rfl,rfl⟩:=h
   obtain ⟨⟨⟨h1,h2⟩,h3⟩,_⟩:=ho
   split at h2
   · rename_i i hi
     exact ⟨g,i,rfl,Nat.eq_of_beq_eq_true h1,hi,Nat.eq_of_beq_eq_true h2,fun e=>by subst e; simp at h3⟩
   · cases h2
 | g :: fs,(a,b) :: l,ho,f + 1,d,n,h=>by
   simp only [offsL,Bool.and_eq_true] at ho
   simpa using offsL_get fs l ho.2 f d n (by simpa using h)
 | [],_ :: _,ho,_,_,_,_=>by simp [offsL] at ho
 | _ :: _,[],ho,_,_,_,_=>by simp [offsL] at ho
/-! ### what is to be shown of an operation -/
section
variable {P : Program} {tt : Tr} {N : Nat} {ids : List Nat} {o : Oper} {K : KL} {B : BL}
/-- An operation that yields a value and leaves the world alone. -/
theorem OpOK.val {v : SV} {rc : List Nat} (h : ∀ (K' : KL) (B' : BL),(∀ x,x ∈ o.op.operands → opv K' x = opv K x) → (∀ c,c ∈ rc → lookB B' c = lookB B c) →
   ∀ (C : Ctx) (ρ : Nat → Pl) (F : Nat → Nat → Prop) (a : Act) (w : World),Mem ids C B' ρ F w → Slots K' ρ (Imm C B' F w) a w → ∃ x,(execOp a.eval o).run P w = .ok (.value x) w ∧ DenV ρ (Imm C B' F w) w v x) :
   OpOK P N ids o K B v ⟨rc,[],[]⟩:=by
 rintro K' B' h1 h2 - C a w ⟨hn,hd,ρ,F,hM,hS⟩ hlt Kn Q hK
 obtain ⟨x,hx,hv⟩:=h K' B' h1 h2 C ρ F a w hM hS
 unfold Oper.wp
 rw [hx,Oper.upon_value]
 exact hK _ _ ⟨put_size.trans hn,put_defers.trans hd,ρ,F,hM,hS.putO (fun e he=>by rw [hn]; exact hlt e he) hv⟩
/-- An operation that yields a value over new blocks that nobody will write. -/
theorem OpOK.new {v : SV} {rc : List Nat} (h : ∀ (K' : KL) (B' : BL),(∀ x,x ∈ o.op.operands → opv K' x = opv K x) → (∀ c,c ∈ rc → lookB B' c = lookB B c) →
   ∀ (C : Ctx) (ρ : Nat → Pl) (F : Nat → Nat → Prop) (a : Act) (w : World),Mem ids C B' ρ F w → Slots K' ρ (Imm C B' F w) a w → ∃ x w',(execOp a.eval o).run P w = .ok (.value x) w' ∧ Below w.heap.size w w' ∧
     (∀ I : Nat → Prop,Ext (Imm C B' F w) w I w' → (∀ b,w.heap.size ≤ b → b < w'.heap.size → I b) → DenV ρ I w' v x)) :
   OpOK P N ids o K B v ⟨rc,[],[]⟩:=by
 rintro K' B' h1 h2 - C a w ⟨hn,hd,ρ,F,hM,hS⟩ hlt Kn Q hK
 obtain ⟨x,w',hx,hb,hv⟩:=h K' B' h1 h2 C ρ F a w hM hS
 obtain ⟨hM',he⟩:=hM.below hb
 unfold Oper.wp
 rw [hx,Oper.upon_value]
 refine hK _ _ ⟨put_size.trans hn,put_defers.trans hd,ρ,F,hM',(hS.mono he fun _ _ _=>rfl).putO (fun e he=>by rw [hn]; exact hlt e he) (hv _ he fun b h1 h2=>⟨h2,?_,fun c ch hc hF=>?_⟩)⟩
 · exact .inr (.inr (hM.fresh h1))
 · have:=(hM.own c ch hc b hF).1; omega
/-! ### what a slot has -/
section
variable {K' : KL} {ρ : Nat → Pl} {I : Nat → Prop} {a : Act} {w : World} {x : Operand}
theorem Slots.ev (hS : Slots K' ρ I a w) {s : SV} (h : opv K' x = s) : DenV ρ I w s (a.eval x):=h ▸ hS.get x
theorem Slots.int (hS : Slots K' ρ I a w) {k : IntKind} {n : Int} (h : opv K' x = .c (.one (.d (.int k n)))) : a.eval x = .int k n:=hS.ev h
theorem Slots.lit (hS : Slots K' ρ I a w) {b : Bool} (h : opv K' x = .c (.one (.d (.lit b)))) : a.eval x = .bool b:=hS.ev h
theorem Slots.bool (hS : Slots K' ρ I a w) {b : Bool} (h : opv K' x = .c (.one (.d (.bool b)))) : a.eval x = .bool b:=hS.ev h
theorem Slots.str (hS : Slots K' ρ I a w) {s : List UInt8} (h : opv K' x = .c (.one (.d (.str s)))) : a.eval x = .string ⟨s.toArray⟩:=hS.ev h
theorem Slots.ptr (hS : Slots K' ρ I a w) {c o : Nat} (h : opv K' x = .c (.one (.ptr c o))) : a.eval x = .pointer (some ⟨(ρ c).blk,o,none⟩):=hS.ev h
theorem Slots.rp (hS : Slots K' ρ I a w) {c s i o : Nat} (h : opv K' x = .c (.one (.rp c s i o))) : a.eval x = .pointer (some ⟨(ρ c).blk,i * s + o,none⟩):=hS.ev h
theorem Slots.os (hS : Slots K' ρ I a w) {c s o n : Nat} (h : opv K' x = .c (.one (.os c s o n))) : a.eval x = .slice (if (ρ c).cap = o then (ρ c).A else (ρ c).A.map (·.add (o * s))) n ((ρ c).cap - o):=hS.ev h
theorem Slots.raw (hS : Slots K' ρ I a w) {v : Value} (h : opv K' x = .c (.one (.raw v))) : a.eval x = v:=hS.ev h
theorem Slots.own (hS : Slots K' ρ I a w) {c : Nat} (h : opv K' x = .c (.one (.own c))) : a.eval x = (ρ c).hdr:=hS.ev h
theorem Slots.nils (hS : Slots K' ρ I a w) (h : opv K' x = .c (.one .nils)) : a.eval x = .slice none 0 0:=hS.ev h
theorem Slots.lst (hS : Slots K' ρ I a w) {u : U} {xs : List (El u)} (h : opv K' x = .c (.one (.d (.lst u xs)))) : DenU I w (.sl u) xs (fun _=>some (a.eval x)):=hS.ev h
end
/-! ### numbers -/
theorem wrap_in {k : IntKind} {n : Int} (h : inK k n) : k.wrap n = n:=by
 cases k <;> simp only [inK] at h <;> simp [IntKind.wrap,IntKind.bits,IntKind.signed] <;> omega
theorem mem2 {x y : Operand} {op : BinOp} {T T2 : TypeId} : x ∈ (Op.binOp op T x y T2).operands ∧ y ∈ (Op.binOp op T x y T2).operands:=by simp [Op.operands]
theorem toList_mk (l : List UInt8) : (⟨l.toArray⟩ : ByteArray).toList = l:=by rw [ByteArray.toList_eq]
theorem size_mk (l : List UInt8) : (⟨l.toArray⟩ : ByteArray).size = l.length:=by simp [ByteArray.size]
theorem bin_int {op : BinOp} {T T2 : TypeId} {x y : Operand} {a : Act} {w : World} {k : IntKind} {n m r : Int} (ho : o.op = .binOp op T x y T2) (h1 : a.eval x = .int k n) (h2 : a.eval y = .int k m)
   (h : (op = .add ∧ r = n + m) ∨ (op = .sub ∧ r = n - m) ∨ (op = .mul ∧ r = n * m)) (hr : inK k r) : (execOp a.eval o).run P w = .ok (.value (.int k r)) w:=by
 simp only [execOp,ho,h1,h2]
 rcases h with ⟨rfl,rfl⟩ | ⟨rfl,rfl⟩ | ⟨rfl,rfl⟩ <;> simp [eqGuard,go_sem,wrap_in hr,Op.intArith]
theorem bin_div {op : BinOp} {T T2 : TypeId} {x y : Operand} {a : Act} {w : World} {k : IntKind} {n m r : Int} (ho : o.op = .binOp op T x y T2) (h1 : a.eval x = .int k n) (h2 : a.eval y = .int k m)
   (hn : 0 ≤ n) (hm : 0 < m) (h : (op = .quo ∧ r = n / m) ∨ (op = .rem ∧ r = n % m)) (hr : inK k r) : (execOp a.eval o).run P w = .ok (.value (.int k r)) w:=by
 have hm0 : m ≠ 0:=by omega
 simp only [execOp,ho,h1,h2]
 rcases h with ⟨rfl,rfl⟩ | ⟨rfl,rfl⟩
 · have e : n.tdiv m = n / m:=Int.tdiv_eq_ediv_of_nonneg hn
   simp [eqGuard,go_sem,Op.intDiv,hm0,e,wrap_in hr]
 · have e : n.tmod m = n % m:=Int.tmod_eq_emod_of_nonneg hn
   simp [eqGuard,go_sem,Op.intDiv,hm0,e]
theorem bin_cmp {op : BinOp} {T T2 : TypeId} {x y : Operand} {a : Act} {w : World} {k : IntKind} {n m : Int} {b : Bool} (ho : o.op = .binOp op T x y T2) (h1 : a.eval x = .int k n) (h2 : a.eval y = .int k m)
   (h : (op = .eql ∧ b = decide (n = m)) ∨ (op = .neq ∧ b = !decide (n = m)) ∨ (op = .lss ∧ b = decide (n < m)) ∨ (op = .leq ∧ b = decide (n ≤ m)) ∨ (op = .gtr ∧ b = decide (m < n)) ∨ (op = .geq ∧ b = decide (m ≤ n))) :
   (execOp a.eval o).run P w = .ok (.value (.bool b)) w:=by
 simp only [execOp,ho,h1,h2]
 rcases h with ⟨rfl,rfl⟩ | ⟨rfl,rfl⟩ | ⟨rfl,rfl⟩ | ⟨rfl,rfl⟩ | ⟨rfl,rfl⟩ | ⟨rfl,rfl⟩
 all_goals
   simp [eqGuard,go_sem,Op.intCmp]
 all_goals
   by_cases e : n = m <;> simp [e]
theorem bin_shift {op : BinOp} {T T2 : TypeId} {x y : Operand} {a : Act} {w : World} {k k2 : IntKind} {n m r : Int} (ho : o.op = .binOp op T x y T2) (h1 : a.eval x = .int k n) (h2 : a.eval y = .int k2 m)
   (hn : 0 ≤ n) (hm : 0 ≤ m) (hb : m.toNat ≤ k.bits) (h : (op = .shl ∧ r = n * (2 ^ m.toNat : Nat)) ∨ (op = .shr ∧ r = n / (2 ^ m.toNat : Nat))) (hr : op = .shl → inK k r) : (execOp a.eval o).run P w = .ok (.value (.int k r)) w:=by
 have hm0 : ¬ m < 0:=by omega
 have e0 : min m.toNat k.bits = m.toNat:=by omega
 simp only [execOp,ho,h1,h2]
 rcases h with ⟨rfl,rfl⟩ | ⟨rfl,rfl⟩
 · have e:=wrap_in (hr rfl)
   simp only [Int.natCast_pow,Int.cast_ofNat_Int] at e ⊢
   have hs : Op.shift .shl k n k2 m = pure (.int k (n * 2 ^ m.toNat)):=by
     unfold Op.shift
     rw [if_neg hm0,e0]
     simp only
     rw [e]
   simp only [eqGuard,binOp,hs]
   simp [go_sem]
 · have e : n.fdiv (2 ^ m.toNat) = n / (2 ^ m.toNat):=by rw [Int.fdiv_eq_ediv_of_nonneg]; exact Int.pow_nonneg (by decide)
   simp only [Int.natCast_pow,Int.cast_ofNat_Int]
   have hs : Op.shift .shr k n k2 m = pure (.int k (n / 2 ^ m.toNat)):=by
     unfold Op.shift
     rw [if_neg hm0,e0]
     simp only
     rw [e]
   simp only [eqGuard,binOp,hs]
   simp [go_sem]
theorem bin_str {op : BinOp} {T T2 : TypeId} {x y : Operand} {a : Act} {w : World} {s t : List UInt8} {b : Bool} (ho : o.op = .binOp op T x y T2) (h1 : a.eval x = .string ⟨s.toArray⟩) (h2 : a.eval y = .string ⟨t.toArray⟩)
   (h : (op = .eql ∧ b = decide (s = t)) ∨ (op = .neq ∧ b = !decide (s = t)) ∨ (op = .lss ∧ b = Op.bytesLess s t) ∨ (op = .leq ∧ b = (Op.bytesLess s t || decide (s = t))) ∨ (op = .gtr ∧ b = !(Op.bytesLess s t || decide (s = t))) ∨ (op = .geq ∧ b = !Op.bytesLess s t)) :
   (execOp a.eval o).run P w = .ok (.value (.bool b)) w:=by
 have e : (s == t) = decide (s = t):=by by_cases e : s = t <;> simp [e]
 simp only [execOp,ho,h1,h2]
 rcases h with ⟨rfl,rfl⟩ | ⟨rfl,rfl⟩ | ⟨rfl,rfl⟩ | ⟨rfl,rfl⟩ | ⟨rfl,rfl⟩ | ⟨rfl,rfl⟩ <;> simp [eqGuard,go_sem,Op.stringOp,toList_mk,e]
theorem append_mk (s t : List UInt8) : (⟨s.toArray⟩ : ByteArray) ++ ⟨t.toArray⟩ = ⟨(s ++ t).toArray⟩:=by
 have : ((⟨s.toArray⟩ : ByteArray) ++ ⟨t.toArray⟩).data = (s ++ t).toArray:=by
   simp [ByteArray.data_append]
 cases h : (⟨s.toArray⟩ : ByteArray) ++ ⟨t.toArray⟩
 rw [h] at this
 simp only at this
 rw [this]
theorem bin_cat {T T2 : TypeId} {x y : Operand} {a : Act} {w : World} {s t : List UInt8} (ho : o.op = .binOp .add T x y T2) (h1 : a.eval x = .string ⟨s.toArray⟩) (h2 : a.eval y = .string ⟨t.toArray⟩)
   (h : s.length + t.length ≤ 4294967296) : (execOp a.eval o).run P w = .ok (.value (.string ⟨(s ++ t).toArray⟩)) w:=by
 simp only [execOp,ho,h1,h2]
 have hn : ¬ (((s.length + t.length : Nat) : Int) > IntKind.i64.max):=by
   have : IntKind.i64.max = 9223372036854775807:=by decide
   omega
 simp only [eqGuard,binOp,Op.stringOp,size_mk,append_mk]
 rw [if_neg hn]
 simp [go_sem]
end
end Go.Proofs.YteoamepgonpdlaaGreat
/-
 Soundness of the conditions: operations on values.
-/
set_option linter.unusedVariables false
set_option linter.unusedSimpArgs false
namespace Go.Proofs.YteoamepgonpdlaaGreat
open Go.RowKit
section
variable {P : Program} {tt : Tr} {N : Nat} {ids : List Nat} {o : Oper} {K : KL} {B : BL} {k : SV → Eff → Prop}
theorem OpOK.one {x : Operand} {sx v : SV} (hx : opv K x = sx) (hm : x ∈ o.op.operands)
   (h : ∀ (K' : KL) (ρ : Nat → Pl) (I : Nat → Prop) (a : Act) (w : World),Slots K' ρ I a w → opv K' x = sx → ∃ r,(execOp a.eval o).run P w = .ok (.value r) w ∧ DenV ρ I w v r) : OpOK P N ids o K B v e0 :=
 OpOK.val fun K' B' h1 h2 C ρ F a w hM hS=>h K' ρ _ a w hS ((h1 x hm).trans hx)
theorem OpOK.two {x y : Operand} {sx sy v : SV} (hx : opv K x = sx) (hy : opv K y = sy) (hm : x ∈ o.op.operands) (hn : y ∈ o.op.operands)
   (h : ∀ (K' : KL) (ρ : Nat → Pl) (I : Nat → Prop) (a : Act) (w : World),Slots K' ρ I a w → opv K' x = sx → opv K' y = sy → ∃ r,(execOp a.eval o).run P w = .ok (.value r) w ∧ DenV ρ I w v r) : OpOK P N ids o K B v e0 :=
 OpOK.val fun K' B' h1 h2 C ρ F a w hM hS=>h K' ρ _ a w hS ((h1 x hm).trans hx) ((h1 y hn).trans hy)
theorem or_i64 {a b : Int} (h1 : 0 ≤ a) (h2 : a ≤ 9223372036854775807) (h3 : 0 ≤ b) (h4 : b ≤ 9223372036854775807) :
   IntKind.i64.wrap (((BitVec.ofInt 64 a ||| BitVec.ofInt 64 b).toNat : Nat) : Int) = ((a.toNat ||| b.toNat : Nat) : Int):=by
 have e1 : (BitVec.ofInt 64 a).toNat = a.toNat:=by rw [BitVec.toNat_ofInt]; omega
 have e2 : (BitVec.ofInt 64 b).toNat = b.toNat:=by rw [BitVec.toNat_ofInt]; omega
 rw [BitVec.toNat_or,e1,e2]
 have h : a.toNat ||| b.toNat < 2 ^ 63:=Nat.or_lt_two_pow (by omega) (by omega)
 exact wrap_in (by simp only [inK]; omega)
theorem vcBin_sound {op : BinOp} {T T2 : TypeId} {x y : Operand} (ho : o.op = .binOp op T x y T2)
   (hp : (∃ e,P.underlying T = some (.pointer e)) ∨ ∀ c d,opv K x ≠ .c (.one (.ptr c d)) ∧ opv K x ≠ .c (.one (.raw (.pointer none))))
   (h : vcBin op (opv K x) (opv K y) k) : ∃ v,k v e0 ∧ OpOK P N ids o K B v e0:=by
 have m1 : x ∈ o.op.operands:=by rw [ho]; exact mem2.1
 have m2 : y ∈ o.op.operands:=by rw [ho]; exact mem2.2
 unfold vcBin at h
 split at h
 · rename_i i a j b hx hy
   have two : ∀ (v : SV) (hv : i = j → ∀ (K' : KL) (ρ : Nat → Pl) (I : Nat → Prop) (ac : Act) (w : World),ac.eval x = .int i a → ac.eval y = .int i b → ∃ r,(execOp ac.eval o).run P w = .ok (.value r) w ∧ DenV ρ I w v r),eqK i j = true → OpOK P N ids o K B v e0:=fun v hv hij =>
     OpOK.two hx hy m1 m2 fun K' ρ I ac w hS e1 e2=>hv (eqK_eq hij) K' ρ I ac w (hS.int e1) (by rw [eqK_eq hij]; exact hS.int e2)
   have sh : ∀ (v : SV) (hv : ∀ (K' : KL) (ρ : Nat → Pl) (I : Nat → Prop) (ac : Act) (w : World),ac.eval x = .int i a → ac.eval y = .int j b → ∃ r,(execOp ac.eval o).run P w = .ok (.value r) w ∧ DenV ρ I w v r),OpOK P N ids o K B v e0:=fun v hv =>
     OpOK.two hx hy m1 m2 fun K' ρ I ac w hS e1 e2=>hv K' ρ I ac w (hS.int e1) (hS.int e2)
   split at h
   · rename_i hij; have h:=rng_and h; exact ⟨_,h.2,two _ (fun _ K' ρ I ac w h1 h2=>⟨_,bin_int ho h1 h2 (.inl ⟨rfl,rfl⟩) h.1,rfl⟩) hij⟩
   · rename_i hij; have h:=rng_and h; exact ⟨_,h.2,two _ (fun _ K' ρ I ac w h1 h2=>⟨_,bin_int ho h1 h2 (.inr (.inl ⟨rfl,rfl⟩)) h.1,rfl⟩) hij⟩
   · rename_i hij; have h:=rng_and h; exact ⟨_,h.2,two _ (fun _ K' ρ I ac w h1 h2=>⟨_,bin_int ho h1 h2 (.inr (.inr ⟨rfl,rfl⟩)) h.1,rfl⟩) hij⟩
   · rename_i hij; have h':=rng_and h.2; exact ⟨_,h'.2,two _ (fun _ K' ρ I ac w h1 h2=>⟨_,bin_div ho h1 h2 h.1.1 h.1.2 (.inl ⟨rfl,rfl⟩) h'.1,rfl⟩) hij⟩
   · rename_i hij; have h':=rng_and h.2; exact ⟨_,h'.2,two _ (fun _ K' ρ I ac w h1 h2=>⟨_,bin_div ho h1 h2 h.1.1 h.1.2 (.inr ⟨rfl,rfl⟩) h'.1,rfl⟩) hij⟩
   · split at h
     · rename_i hi
       have:=eqK_eq hi
       subst this
       have h':=rng_and h.2
       exact ⟨_,h'.2,sh _ fun K' ρ I ac w h1 h2=>⟨_,bin_shift ho h1 h2 h.1.1 h.1.2.1 (by simp [IntKind.bits]; have:=h.1.2.2; omega) (.inl ⟨rfl,rfl⟩) (fun _=>h'.1),rfl⟩⟩
     · exact h.elim
   · split at h
     · rename_i hi
       have:=eqK_eq hi
       subst this
       exact ⟨_,h.2,sh _ fun K' ρ I ac w h1 h2=>⟨_,bin_shift ho h1 h2 h.1.1 h.1.2.1 (by simp [IntKind.bits]; have:=h.1.2.2; omega) (.inr ⟨rfl,rfl⟩) (fun e=>by cases e),rfl⟩⟩
     · exact h.elim
   · rename_i hij
     split at h
     · rename_i hi
       have:=eqK_eq hi
       subst this
       refine ⟨_,h.2,two _ (fun hj K' ρ I ac w h1 h2=>⟨_,?_,rfl⟩) hij⟩
       have e:=or_i64 h.1.1 h.1.2.1 h.1.2.2.1 h.1.2.2.2
       have hs : Op.intBits .or .i64 a b = pure (.int .i64 ((a.toNat ||| b.toNat : Nat) : Int)):=by
         exact congrArg (fun z : Int=>(pure (Value.int .i64 z) : Sem Value)) e
       simp only [execOp,ho,h1,h2,eqGuard,binOp,hs]
       simp [go_sem]
     · exact h.elim
   · rename_i hij; exact ⟨_,h,two _ (fun _ K' ρ I ac w h1 h2=>⟨_,bin_cmp ho h1 h2 (.inl ⟨rfl,rfl⟩),rfl⟩) hij⟩
   · rename_i hij; exact ⟨_,h,two _ (fun _ K' ρ I ac w h1 h2=>⟨_,bin_cmp ho h1 h2 (.inr (.inl ⟨rfl,rfl⟩)),rfl⟩) hij⟩
   · rename_i hij; exact ⟨_,h,two _ (fun _ K' ρ I ac w h1 h2=>⟨_,bin_cmp ho h1 h2 (.inr (.inr (.inl ⟨rfl,rfl⟩))),rfl⟩) hij⟩
   · rename_i hij; exact ⟨_,h,two _ (fun _ K' ρ I ac w h1 h2=>⟨_,bin_cmp ho h1 h2 (.inr (.inr (.inr (.inl ⟨rfl,rfl⟩)))),rfl⟩) hij⟩
   · rename_i hij; exact ⟨_,h,two _ (fun _ K' ρ I ac w h1 h2=>⟨_,bin_cmp ho h1 h2 (.inr (.inr (.inr (.inr (.inl ⟨rfl,rfl⟩))))),rfl⟩) hij⟩
   · rename_i hij; exact ⟨_,h,two _ (fun _ K' ρ I ac w h1 h2=>⟨_,bin_cmp ho h1 h2 (.inr (.inr (.inr (.inr (.inr ⟨rfl,rfl⟩))))),rfl⟩) hij⟩
   · exact h.elim
 · rename_i s t hx hy
   have two : ∀ (v : SV) (hv : ∀ (K' : KL) (ρ : Nat → Pl) (I : Nat → Prop) (ac : Act) (w : World),ac.eval x = .string ⟨s.toArray⟩ → ac.eval y = .string ⟨t.toArray⟩ → ∃ r,(execOp ac.eval o).run P w = .ok (.value r) w ∧ DenV ρ I w v r),OpOK P N ids o K B v e0:=fun v hv =>
     OpOK.two hx hy m1 m2 fun K' ρ I ac w hS e1 e2=>hv K' ρ I ac w (hS.str e1) (hS.str e2)
   split at h
   · exact ⟨_,h.2,two _ fun K' ρ I ac w h1 h2=>⟨_,bin_cat ho h1 h2 h.1,rfl⟩⟩
   · exact ⟨_,h,two _ fun K' ρ I ac w h1 h2=>⟨_,bin_str ho h1 h2 (.inl ⟨rfl,rfl⟩),rfl⟩⟩
   · exact ⟨_,h,two _ fun K' ρ I ac w h1 h2=>⟨_,bin_str ho h1 h2 (.inr (.inl ⟨rfl,rfl⟩)),rfl⟩⟩
   · exact ⟨_,h,two _ fun K' ρ I ac w h1 h2=>⟨_,bin_str ho h1 h2 (.inr (.inr (.inl ⟨rfl,rfl⟩))),rfl⟩⟩
   · exact ⟨_,h,two _ fun K' ρ I ac w h1 h2=>⟨_,bin_str ho h1 h2 (.inr (.inr (.inr (.inl ⟨rfl,rfl⟩)))),rfl⟩⟩
   · exact ⟨_,h,two _ fun K' ρ I ac w h1 h2=>⟨_,bin_str ho h1 h2 (.inr (.inr (.inr (.inr (.inl ⟨rfl,rfl⟩))))),rfl⟩⟩
   · exact ⟨_,h,two _ fun K' ρ I ac w h1 h2=>⟨_,bin_str ho h1 h2 (.inr (.inr (.inr (.inr (.inr ⟨rfl,rfl⟩))))),rfl⟩⟩
   · exact h.elim
 · rename_i c d hx hy
   obtain ⟨e,hu⟩:=hp.resolve_right fun h=>(h c d).1 hx
   have q : ∀ (p : Addr) (w : World),(Op.equalIn (9999 + 1) T (.pointer (some p)) (.pointer none)).run P w = .ok false w:=fun p w=>by
     unfold Op.equalIn
     simp [run_underlying hu]
   split at h
   · refine ⟨_,h,OpOK.two hx hy m1 m2 fun K' ρ I ac w hS e1 e2=>⟨_,?_,rfl⟩⟩
     simp only [execOp,ho,hS.ptr e1,hS.raw e2]
     simp [eqGuard,binOp,Op.equal,Op.maxDepth,q]
   · refine ⟨_,h,OpOK.two hx hy m1 m2 fun K' ρ I ac w hS e1 e2=>⟨_,?_,rfl⟩⟩
     simp only [execOp,ho,hS.ptr e1,hS.raw e2]
     simp [eqGuard,binOp,Op.equal,Op.maxDepth,q]
   · exact h.elim
 · rename_i hx hy
   obtain ⟨e,hu⟩:=hp.resolve_right fun h=>(h 0 0).2 hx
   have q : ∀ (w : World),(Op.equalIn (9999 + 1) T (.pointer none) (.pointer none)).run P w = .ok true w:=fun w=>by
     unfold Op.equalIn
     simp [run_underlying hu]
   split at h
   · refine ⟨_,h,OpOK.two hx hy m1 m2 fun K' ρ I ac w hS e1 e2=>⟨_,?_,rfl⟩⟩
     simp only [execOp,ho,hS.raw e1,hS.raw e2]
     simp [eqGuard,binOp,Op.equal,Op.maxDepth,q]
   · refine ⟨_,h,OpOK.two hx hy m1 m2 fun K' ρ I ac w hS e1 e2=>⟨_,?_,rfl⟩⟩
     simp only [execOp,ho,hS.raw e1,hS.raw e2]
     simp [eqGuard,binOp,Op.equal,Op.maxDepth,q]
   · exact h.elim
 · exact h.elim
theorem vcPtr_sound {op : BinOp} {T T2 : TypeId} {x y : Operand} (ho : o.op = .binOp op T x y T2) (hP : ∀ T,isPtrE tt T = true → ∃ e i,P.underlying T = some (.pointer e) ∧ P.info? e = some i ∧ i.size ≠ 0)
   (hp : ∃ e,P.underlying T = some (.pointer e)) (h : vcPtr tt T op (opv K x) (opv K y) k) : ∃ v,k v e0 ∧ OpOK P N ids o K B v e0:=by
 have m1 : x ∈ o.op.operands:=by rw [ho]; exact mem2.1
 have m2 : y ∈ o.op.operands:=by rw [ho]; exact mem2.2
 unfold vcPtr at h
 split at h
 · rename_i p hx
   obtain ⟨e,hu⟩:=hp
   have key : ∀ (b : Bool) (r : Option Nat),(∀ (ρ : Nat → Pl) (I : Nat → Prop) (w : World) (v : Value),DenV ρ I w (opv K y) v → v = .pointer (adrP r)) → (b = true → p = r ∧ (r = none ∨ isPtrE tt T = true)) → (b = false → (p = none ∧ r ≠ none) ∨ (p ≠ none ∧ r = none)) → (op = .eql → OpOK P N ids o K B (.c (.one (.d (.lit b)))) e0) ∧ (op = .neq → OpOK P N ids o K B (.c (.one (.d (.lit !b)))) e0):=by
     intro b r hy h1 h2
     have q : ∀ (w : World),(Op.equalIn (9999 + 1) T (.pointer (adrP p)) (.pointer (adrP r))).run P w = .ok b w:=by
       intro w
       unfold Op.equalIn
       cases b with
       | true =>
         obtain ⟨rfl,h3⟩:=h1 rfl
         cases p with
         | none=>simp [run_underlying hu,adrP]
         | some p =>
           rcases h3 with h3 | h3
           · cases h3
           · obtain ⟨e',i,k1,k2,k3⟩:=hP T h3
             rw [hu] at k1
             injection k1 with k1
             injection k1 with k1
             subst k1
             simp [run_underlying hu,adrP,sizeOf,typeInfo,k2,k3,sameAddr]
       | false =>
         rcases h2 rfl with ⟨rfl,h3⟩ | ⟨h3,rfl⟩
         · cases r with
           | none=>exact absurd rfl h3
           | some r=>simp [run_underlying hu,adrP]
         · cases p with
           | none=>exact absurd rfl h3
           | some p=>simp [run_underlying hu,adrP]
     refine ⟨fun e1=>?_,fun e1=>?_⟩
     · subst e1
       refine OpOK.val fun K' B' g1 g2 C ρ F a w hM hS=>⟨.bool b,?_,rfl⟩
       have e1 : a.eval x = .pointer (adrP p):=hS.ev ((g1 x m1).trans hx)
       have e2 : a.eval y = .pointer (adrP r):=hy _ _ _ _ (hS.ev (g1 y m2))
       simp only [execOp,ho,e1,e2]
       simp [eqGuard,binOp,Op.equal,Op.maxDepth,q]
     · subst e1
       refine OpOK.val fun K' B' g1 g2 C ρ F a w hM hS=>⟨.bool !b,?_,rfl⟩
       have e1 : a.eval x = .pointer (adrP p):=hS.ev ((g1 x m1).trans hx)
       have e2 : a.eval y = .pointer (adrP r):=hy _ _ _ _ (hS.ev (g1 y m2))
       simp only [execOp,ho,e1,e2]
       simp [eqGuard,binOp,Op.equal,Op.maxDepth,q]
   have two : ∀ (f : Bool → Prop),sameP tt T p (opv K y) f → ∃ b,f b ∧ (op = .eql → OpOK P N ids o K B (.c (.one (.d (.lit b)))) e0) ∧ (op = .neq → OpOK P N ids o K B (.c (.one (.d (.lit !b)))) e0):=by
     intro f h
     unfold sameP at h
     split at h
     · rename_i hy
       have hy' : ∀ (ρ : Nat → Pl) (I : Nat → Prop) (w : World) (v : Value),DenV ρ I w (opv K y) v → v = .pointer (adrP none):=fun ρ I w v hv=>by rw [hy] at hv; exact hv
       cases hp : p with
       | some b=>exact ⟨_,h.1 b hp,by
           have:=key false none hy' (fun e=>by cases e) (fun _=>.inr ⟨by simp [hp],rfl⟩)
           exact this⟩
       | none=>exact ⟨_,h.2 hp,key true none hy' (fun _=>⟨hp,.inl rfl⟩) (fun e=>by cases e)⟩
     · rename_i r hy
       have hy' : ∀ (ρ : Nat → Pl) (I : Nat → Prop) (w : World) (v : Value),DenV ρ I w (opv K y) v → v = .pointer (adrP r):=fun ρ I w v hv=>by rw [hy] at hv; exact hv
       split at h
       · have hE : isPtrE tt T = true:=by assumption
         obtain ⟨rfl,h⟩:=h
         exact ⟨_,h,key _ _ hy' (fun _=>⟨rfl,.inr hE⟩) (fun e=>by cases e)⟩
       · exact h.elim
     · exact h.elim
   split at h
   · obtain ⟨b,h1,h2,_⟩:=two _ h
     exact ⟨_,h1,h2 rfl⟩
   · obtain ⟨b,h1,_,h2⟩:=two _ h
     exact ⟨_,h1,h2 rfl⟩
   · exact h.elim
 · exact vcBin_sound ho (.inl hp) h
theorem vcBB_sound {op : BinOp} {T T2 : TypeId} {x y : Operand} (ho : o.op = .binOp op T x y T2) (hu : P.underlying T = some .bool) {a : Bool} (hx : opv K x = .c (.one (.d (.bool a))) ∨ opv K x = .c (.one (.d (.lit a))))
   (h : vcBB op a (opv K y) k) : ∃ v,k v e0 ∧ OpOK P N ids o K B v e0:=by
 have m1 : x ∈ o.op.operands:=by rw [ho]; exact mem2.1
 have m2 : y ∈ o.op.operands:=by rw [ho]; exact mem2.2
 have q : ∀ (a b : Bool) (w : World),(Op.equalIn (9999 + 1) T (.bool a) (.bool b)).run P w = .ok (a == b) w:=fun a b w=>by
   unfold Op.equalIn
   simp [run_underlying hu]
 have key : ∀ (b : Bool) (r : Bool),(opv K y = .c (.one (.d (.bool b))) ∨ opv K y = .c (.one (.d (.lit b)))) → (op = .eql ∧ r = (a == b)) ∨ (op = .neq ∧ r = !(a == b)) → OpOK P N ids o K B (.c (.one (.d (.bool r)))) e0:=fun b r hy hr =>
   OpOK.val fun K' B' h1 h2 C ρ F ac w hM hS=>by
     have ex : ac.eval x = .bool a:=by
       have:=hS.get x
       rw [h1 x m1] at this
       rcases hx with hx | hx <;> (rw [hx] at this; exact this)
     have ey : ac.eval y = .bool b:=by
       have:=hS.get y
       rw [h1 y m2] at this
       rcases hy with hy | hy <;> (rw [hy] at this; exact this)
     refine ⟨.bool r,?_,rfl⟩
     rcases hr with ⟨rfl,rfl⟩ | ⟨rfl,rfl⟩ <;> (simp only [execOp,ho,ex,ey]; simp [eqGuard,binOp,Op.equal,Op.maxDepth,q])
 unfold vcBB at h
 split at h
 · exact ⟨_,h,key _ _ (.inl ‹_›) (.inl ⟨rfl,rfl⟩)⟩
 · exact ⟨_,h,key _ _ (.inr ‹_›) (.inl ⟨rfl,rfl⟩)⟩
 · exact ⟨_,h,key _ _ (.inl ‹_›) (.inr ⟨rfl,rfl⟩)⟩
 · exact ⟨_,h,key _ _ (.inr ‹_›) (.inr ⟨rfl,rfl⟩)⟩
 · exact h.elim
end
end Go.Proofs.YteoamepgonpdlaaGreat
/-
 Soundness of the conditions: loads,stores,new blocks.
-/
set_option linter.unusedVariables false
set_option linter.unusedSimpArgs false
namespace Go.Proofs.YteoamepgonpdlaaGreat
open Go.RowKit
section
variable {ρ : Nat → Pl} {I : Nat → Prop} {w : World}
theorem DenL.length : ∀ (l : List S1) (vs : List Value),DenL ρ I w l vs → vs.length = l.length
 | [],_,h=>by rw [show _ = [] from h]; rfl
 | s :: l,_,⟨v,r,e,h1,h2⟩=>by rw [e,List.length_cons,List.length_cons,DenL.length l r h2]
theorem DenL.get : ∀ (l : List S1) (vs : List Value),DenL ρ I w l vs → ∀ (i : Nat) (s : S1),l[i]? = some s → ∃ v,vs[i]? = some v ∧ DenS ρ I w s v
 | [],_,h,i,s,hs=>by simp at hs
 | t :: l,_,⟨v,r,e,h1,h2⟩,0,s,hs=>by
   simp only [List.getElem?_cons_zero,Option.some.injEq] at hs
   subst hs e
   exact ⟨v,rfl,h1⟩
 | t :: l,_,⟨v,r,e,h1,h2⟩,i + 1,s,hs=>by
   subst e
   simpa using DenL.get l r h2 i s (by simpa using hs)
theorem DenL.app : ∀ (l m : List S1) (vs us : List Value),DenL ρ I w l vs → DenL ρ I w m us → DenL ρ I w (l ++ m) (vs ++ us)
 | [],m,_,us,h,h'=>by rw [show _ = [] from h]; exact h'
 | s :: l,m,_,us,⟨v,r,e,h1,h2⟩,h'=>⟨v,r ++ us,by rw [e]; rfl,h1,DenL.app l m r us h2 h'⟩
theorem DenL.tk : ∀ (n : Nat) (l : List S1) (vs : List Value),DenL ρ I w l vs → DenL ρ I w (l.take n) (vs.take n)
 | 0,_,_,_=>rfl
 | n + 1,[],_,h=>by rw [show _ = [] from h]; rfl
 | n + 1,s :: l,_,⟨v,r,e,h1,h2⟩=>⟨v,r.take n,by rw [e]; rfl,h1,DenL.tk n l r h2⟩
theorem DenL.dp : ∀ (n : Nat) (l : List S1) (vs : List Value),DenL ρ I w l vs → DenL ρ I w (l.drop n) (vs.drop n)
 | 0,_,_,h=>h
 | n + 1,[],_,h=>by rw [show _ = [] from h]; rfl
 | n + 1,s :: l,_,⟨v,r,e,h1,h2⟩=>by rw [e]; exact DenL.dp n l r h2
theorem DenL.splice {l cs : List S1} {vs us : List Value} {o : Nat} (h : DenL ρ I w l vs) (h' : DenL ρ I w cs us) : DenL ρ I w (spl l o cs) (vs.take o ++ us ++ vs.drop (o + us.length)):=by
 unfold spl
 rw [DenL.length cs us h']
 exact DenL.app _ _ _ _ (DenL.app _ _ _ _ (DenL.tk _ _ _ h) h') (DenL.dp _ _ _ h)
theorem ok_one {s : S1} {v : Value} (h : s.ok = true) (hv : DenS ρ I w s v) : v.oneCell' = true:=by
 cases s with
 | d x =>
   cases x with
   | lst u xs=>obtain ⟨A,cap,e,_⟩:=hv; injection e with e; rw [e]; rfl
   | hdl y=>rw [show v = hdlV y from hv]; rcases y with _ | ⟨b,n,c⟩ <;> rfl
   | fn y=>rw [show v = fnV y from hv]; rfl
   | _=>rw [show v = _ from hv]; rfl
 | ptr c o=>rw [show v = _ from hv]; rfl
 | own c=>rw [show v = _ from hv]; rfl
 | el u x o=>obtain ⟨b,p,e,_⟩:=hv; rw [e]; rfl
 | rp c s i o=>rw [show v = _ from hv]; rfl
 | os c s o n=>rw [show v = _ from hv]; rfl
 | mp c=>rw [show v = _ from hv]; rfl
 | clo f l=>obtain ⟨vs,e,_⟩:=hv; rw [e]; rfl
 | nils=>rw [show v = _ from hv]; rfl
 | raw u =>
   rw [show v = u from hv]
   cases u <;> first | rfl | (simp [S1.ok] at h)
 | any=>simp [S1.ok] at h
theorem ok_list : ∀ {l : List S1} {vs : List Value},okL l = true → DenL ρ I w l vs → ∀ u ∈ vs,u.oneCell' = true
 | [],_,_,hv,u,hu=>by rw [show _ = [] from hv] at hu; cases hu
 | s :: l,_,h,⟨v,r,e,h1,h2⟩,u,hu=>by
   simp only [okL,Bool.and_eq_true] at h
   subst e
   rcases List.mem_cons.1 hu with rfl | hu
   · exact ok_one h.1 h1
   · exact ok_list h.2 h2 u hu
theorem cells_of {sv : SV} {l : List S1} {v : Value} (h : cellsV sv = some l) (hv : DenV ρ I w sv v) : ∃ vs,v.cells = List.toArray vs ∧ DenL ρ I w l vs ∧ ∀ u ∈ vs,u.oneCell' = true:=by
 unfold cellsV at h
 split at h
 · split at h
   · rename_i s hs
     injection h with h
     subst h
     have h1:=ok_one hs hv
     refine ⟨[v],?_,⟨v,[],rfl,hv,rfl⟩,fun u hu=>by simp at hu; rw [hu]; exact h1⟩
     cases v <;> first | rfl | (simp [Value.oneCell'] at h1)
   · cases h
 · split at h
   · rename_i l' hl
     injection h with h
     subst h
     obtain ⟨vs,e,h2⟩:=hv
     exact ⟨vs,by rw [e]; rfl,h2,ok_list hl h2⟩
   · cases h
 · cases h
end
/-! ### one block turned,one block new -/
def upd {α : Type} (f : Nat → α) (c : Nat) (x : α) : Nat → α:=fun d=>if d = c then x else f d
theorem upd_same {α : Type} (f : Nat → α) (c : Nat) (x : α) : upd f c x c = x:=if_pos rfl
theorem upd_other {α : Type} (f : Nat → α) {c d : Nat} (x : α) (h : d ≠ c) : upd f c x d = f d:=if_neg h
theorem noK_has {c : Nat} : ∀ {K : KL},noK c K = true → ∀ s,(look K s).has c = false
 | [],_,s=>rfl
 | (t,v) :: K,h,s=>by
   simp only [noK,Bool.and_eq_true,Bool.not_eq_true'] at h
   rw [look_cons]
   split
   · exact h.1
   · exact noK_has h.2 s
theorem noB_has {c : Nat} : ∀ {B : BL},noB c B = true → lookB B c = none ∧ ∀ d ch,lookB B d = some ch → ch.has c = false
 | [],_=>⟨rfl,fun d ch h=>by cases h⟩
 | (t,v) :: B,h=>by
   simp only [noB,Bool.and_eq_true,Bool.not_eq_true'] at h
   obtain ⟨h1,h2⟩:=noB_has h.2
   have hne : t ≠ c:=fun e=>by subst e; simp at h
   refine ⟨by rw [lookB_cons,if_neg hne]; exact h1,fun d ch hd=>?_⟩
   rw [lookB_cons] at hd
   split at hd
   · injection hd with hd; subst hd; exact h.1.2
   · exact h2 d ch hd
theorem fresh_of {ids : List Nat} {K : KL} {B : BL} {c : Nat} (h : freshB ids K B c = true) : (∀ s,(look K s).has c = false) ∧ lookB B c = none ∧ (∀ d ch,lookB B d = some ch → ch.has c = false) ∧ c ∉ ids:=by
 simp only [freshB,Bool.and_eq_true,Bool.not_eq_true'] at h
 obtain ⟨h2,h3⟩:=noB_has h.1.2
 exact ⟨noK_has h.1.1,h2,h3,by simpa using h.2⟩
section
variable {P : Program} {tt : Tr} {N : Nat} {ids : List Nat} {o : Oper} {K : KL} {B : BL} {C : Ctx} {ρ : Nat → Pl} {F : Nat → Nat → Prop} {w w' : World}
theorem Mem.make (h : Mem ids C B ρ F w) {c : Nat} {ch : Ch} (hf : freshB ids K B c = true) (hb : Below w.heap.size w w') (pl : Pl) (G : Nat → Prop) (hG : ∀ b,G b → w.heap.size ≤ b ∧ b < w'.heap.size)
   (hH : ∀ I,Ext (Imm C B F w) w I w' → (∀ b,I b → b < w'.heap.size ∧ ¬ G b) → Holds (upd ρ c pl) I G w' pl ch) :
   Mem ids C ((c,ch) :: B) (upd ρ c pl) (upd F c G) w' ∧ Ext (Imm C B F w) w (Imm C ((c,ch) :: B) (upd F c G) w') w':=by
 obtain ⟨f1,f2,f3,f4⟩:=fresh_of hf
 refine h.step (fun d=>d = c) (fun d=>d = c) (Fr.of_below hb) ?_ (fun d hd=>upd_other _ _ hd) (fun d hd=>upd_other _ _ hd) (fun d hd e=>f4 (e ▸ hd)) (fun _ h=>h) ?_ ?_ ?_ ?_
 · intro d ch' hd hne
   rw [lookB_cons,if_neg (fun e=>hne e.symm)] at hd
   exact hd
 · rintro d ch' hd _ e he rfl
   rw [f3 d ch' hd] at he
   cases he
 · rintro d ch' hd rfl he
   rw [lookB_cons,if_pos rfl] at hd
   injection hd with hd
   subst hd
   rw [upd_same,upd_same]
   exact hH _ he fun b hb'=>⟨hb'.1,fun hg=>hb'.2.2 d ch (by rw [lookB_cons,if_pos rfl]) (by rw [upd_same]; exact hg)⟩
 · rintro d ch' hd rfl b hg
   rw [upd_same] at hg
   exact ⟨(hG b hg).2,.inr (hG b hg).1⟩
 · rintro d d' ch1 ch2 b _ _ rfl rfl hne
   exact absurd rfl hne
theorem Mem.turn (h : Mem ids C B ρ F w) {c : Nat} {ch0 ch : Ch} (hc : lookB B c = some ch0) (hfr : Fr (F c) w w')
   (hH : ∀ I,Ext (Imm C B F w) w I w' → Holds ρ I (F c) w' (ρ c) ch) :
   Mem ids C ((c,ch) :: B) ρ F w' ∧ Ext (Imm C B F w) w (Imm C ((c,ch) :: B) F w') w':=by
 refine h.step (fun d=>d = c) (fun _=>False) (hfr.mono fun b _ hb=>⟨c,ch0,hc,rfl,hb⟩) ?_ (fun _ _=>rfl) (fun _ _=>rfl) (fun _ _ h=>h) (fun _ h=>h.elim) (fun _ _ _ _ _ _ h=>h) ?_ ?_ ?_
 · intro d ch' hd hne
   rw [lookB_cons,if_neg (fun e=>hne e.symm)] at hd
   exact hd
 · rintro d ch' hd rfl he
   rw [lookB_cons,if_pos rfl] at hd
   injection hd with hd
   subst hd
   exact hH _ he
 · rintro d ch' hd rfl b hb
   exact ⟨Nat.lt_of_lt_of_le (h.own d ch0 hc b hb).1 hfr.size,.inl ⟨d,ch0,hc,rfl,hb⟩⟩
 · rintro d d' ch1 ch2 b _ _ rfl rfl hne
   exact absurd rfl hne
/-- An operation that makes one block. -/
theorem OpOK.make {c : Nat} {ch : Ch} {v : SV} {rc : List Nat} (hv : ∀ d,v.has d = true → d = c)
   (h : ∀ (K' : KL) (B' : BL),(∀ x,x ∈ o.op.operands → opv K' x = opv K x) → (∀ c,c ∈ rc → lookB B' c = lookB B c) → ∀ (C : Ctx) (ρ : Nat → Pl) (F : Nat → Nat → Prop) (a : Act) (w : World),Mem ids C B' ρ F w → Slots K' ρ (Imm C B' F w) a w →
     (∀ s,(look K' s).has c = false) → ∃ x w' pl G,(execOp a.eval o).run P w = .ok (.value x) w' ∧ Below w.heap.size w w' ∧ (∀ b,G b → w.heap.size ≤ b ∧ b < w'.heap.size) ∧
       (∀ I,Ext (Imm C B' F w) w I w' → (∀ b,I b → b < w'.heap.size ∧ ¬ G b) → Holds (upd ρ c pl) I G w' pl ch ∧ DenV (upd ρ c pl) I w' v x)) :
   OpOK P N ids o K B v ⟨rc,[c],[(c,some ch)]⟩:=by
 rintro K' B' h1 h2 h3 C a w ⟨hn,hd,ρ,F,hM,hS⟩ hlt Kn Q hK
 have hf:=h3 c (by simp)
 have hfr:=fresh_of hf
 obtain ⟨x,w',pl,G,hx,hb,hG,hH⟩:=h K' B' h1 h2 C ρ F a w hM hS hfr.1
 obtain ⟨hM',he⟩:=hM.make hf hb pl G hG fun I e1 e2=>(hH I e1 e2).1
 unfold Oper.wp
 rw [hx,Oper.upon_value]
 refine hK _ _ ⟨put_size.trans hn,put_defers.trans hd,upd ρ c pl,upd F c G,hM',(hS.mono he fun s d hd=>upd_other _ _ (fun e=>by subst e; rw [hfr.1 s] at hd; cases hd)).putO (fun e he=>by rw [hn]; exact hlt e he) ?_⟩
 exact (hH _ he fun b hb'=>⟨hb'.1,fun hg=>hb'.2.2 c ch (by rw [lookB_cons,if_pos rfl]) (by rw [upd_same]; exact hg)⟩).2
/-- An operation that turns one block. -/
theorem OpOK.turn {c : Nat} {ch0 ch : Ch} (hc : lookB B c = some ch0)
   (h : ∀ (K' : KL) (B' : BL),(∀ x,x ∈ o.op.operands → opv K' x = opv K x) → ∀ (C : Ctx) (ρ : Nat → Pl) (F : Nat → Nat → Prop) (a : Act) (w : World),Mem ids C B' ρ F w → Slots K' ρ (Imm C B' F w) a w → lookB B' c = some ch0 → ∃ w',(execOp a.eval o).run P w = .ok .skip w' ∧ Fr (F c) w w' ∧
       (∀ I,Ext (Imm C B' F w) w I w' → Holds ρ I (F c) w' (ρ c) ch)) :
   OpOK P N ids o K B .undef ⟨[c],[],[(c,some ch)]⟩:=by
 rintro K' B' h1 h2 - C a w ⟨hn,hd,ρ,F,hM,hS⟩ hlt Kn Q hK
 have hc' : lookB B' c = some ch0:=(h2 c (by simp)).trans hc
 obtain ⟨w',hx,hfr,hH⟩:=h K' B' h1 C ρ F a w hM hS hc'
 obtain ⟨hM',he⟩:=hM.turn hc' hfr hH
 unfold Oper.wp
 rw [hx,Oper.upon_skip]
 exact hK _ _ ⟨put_size.trans hn,put_defers.trans hd,ρ,F,hM',(hS.mono he fun _ _ _=>rfl).putO (fun e he=>by rw [hn]; exact hlt e he) rfl⟩
/-! ### loads and stores -/
theorem run_load1 {T : TypeId} {p : Addr} {v : Value} {d : TypeDesc} (hu : P.underlying T = some d) (hd : d.isRow = false) (hc : w.cell? p = some v) : (loadVar T p).run P w = .ok v w:=by
 cases d <;> first | (simp [TypeDesc.isRow] at hd; done) | simp [loadVar,isAgg,run_underlying hu,go_sem,hc]
theorem exec_load1 {ev : Operand → Value} {T : TypeId} {x : Operand} {p : Addr} {v : Value} {d : TypeDesc} (ho : o.op = .load T x) (h1 : ev x = .pointer (some p)) (hu : P.underlying T = some d) (hd : d.isRow = false) (hc : w.cell? p = some v) : (execOp ev o).run P w = .ok (.value v) w:=by
 unfold execOp
 simp only [ho,h1,Instr.loadAt,Instr.sureAddr,Sem.run_bind,Sem.run_pure,Result.andThen_ok,run_load1 hu hd hc]
theorem exec_loadn {ev : Operand → Value} {T : TypeId} {x : Operand} {b p : Nat} {cs : List Value} {d : TypeDesc} {i : TypeInfo} (ho : o.op = .load T x) (h1 : ev x = .pointer (some ⟨b,p,none⟩)) (hu : P.underlying T = some d) (hd : d.isRow = true) (hi : P.info? T = some i) (hl : i.size = cs.length)
   (hc : ∀ (j : Nat) (u : Value),cs[j]? = some u → w.cell? ⟨b,p + j,none⟩ = some u) : (execOp ev o).run P w = .ok (.value (.agg cs.toArray)) w:=by
 unfold execOp
 simp only [ho,h1,Instr.loadAt,Instr.sureAddr,Sem.run_bind,Sem.run_pure,Result.andThen_ok,run_loadVar_mid w b p T cs d hc hu hd (by rw [hi,Option.map_some,hl])]
theorem cell_of {b : Nat} {vs : List Value} {T : Nat} (h : w.heap[b]? = some (.cells (List.toArray vs) T (0,0))) {j : Nat} {v : Value} (hj : vs[j]? = some v) : w.cell? ⟨b,j,none⟩ = some v:=by
 simp [World.cell?,h,hj]
theorem exec_store {ev : Operand → Value} {T : TypeId} {x y : Operand} {b p : Nat} {vs us : List Value} {U : Nat} {i : TypeInfo} (ho : o.op = .store T x y) (h1 : ev x = .pointer (some ⟨b,p,none⟩)) (hy : (ev y).cells = List.toArray us) (hi : P.info? T = some i) (hl : i.size = us.length)
   (hb : w.heap[b]? = some (.cells (List.toArray vs) U (0,0))) (hfit : p + us.length ≤ vs.length) (hone : ∀ u ∈ us,u.oneCell' = true) :
   (execOp ev o).run P w = .ok .skip (w.setRow b (vs.take p ++ us ++ vs.drop (p + us.length)).toArray):=by
 have hs:=run_storeCells_at (P:=P) b p U us 0 (List.toArray vs) w hb (by simpa using hfit) hone
 simp only [Nat.add_zero,List.toList_toArray] at hs
 have hz : (ev y).cells.size = i.size:=by rw [hy,hl]; simp
 unfold execOp
 simp [ho,h1,Instr.storeAt,Instr.sureAddr,storeVar,sizeOf,typeInfo,hi,hy,hl,hs]
end
end Go.Proofs.YteoamepgonpdlaaGreat
/-
 Soundness of the conditions: each operation.
-/
set_option linter.unusedVariables false
set_option linter.unusedSimpArgs false
namespace Go.Proofs.YteoamepgonpdlaaGreat
open Go.RowKit
section
variable {P : Program} {tt : Tr} {N : Nat} {ids : List Nat} {o : Oper} {K : KL} {B : BL} {k : SV → Eff → Prop}
/-- Something is to be shown behind it,and it does that. -/
def Snd (P : Program) (N : Nat) (ids : List Nat) (o : Oper) (K : KL) (B : BL) (k : SV → Eff → Prop) : Prop:=∃ v e,k v e ∧ OpOK P N ids o K B v e ∧ ∀ c,c ∈ e.nw → freshB ids K B c = true
theorem Snd.of {v : SV} {rc : List Nat} {wc : List (Nat × Option Ch)} (h : k v ⟨rc,[],wc⟩) (hO : OpOK P N ids o K B v ⟨rc,[],wc⟩) : Snd P N ids o K B k:=⟨_,_,h,hO,fun c hc=>by cases hc⟩
theorem Snd.nw {v : SV} {rc : List Nat} {d : Nat} {wc : List (Nat × Option Ch)} (h : k v ⟨rc,[d],wc⟩) (hf : freshB ids K B d = true) (hO : OpOK P N ids o K B v ⟨rc,[d],wc⟩) : Snd P N ids o K B k:=⟨_,_,h,hO,fun c hc=>by simp at hc; rw [hc]; exact hf⟩
theorem snd_move {x : Operand} (ho : o.op = .move x ∨ o.op = .assign x) (h : forceV (opv K x) fun v=>k v e0) : Snd P N ids o K B k:=by
 rw [forceV_eq] at h
 refine Snd.of h <| OpOK.one rfl (by rcases ho with ho | ho <;> rw [ho] <;> simp [Op.operands]) fun K' ρ I a w hS e=>⟨_,?_,hS.ev e⟩
 rcases ho with ho | ho <;> simp [execOp,ho]
theorem snd_pick {c x y : Operand} (ho : o.op = .pick c x y) (h : match opv K c with
   | .c (.one (.d (.lit true)))=>forceV (opv K x) fun v=>k v e0
   | .c (.one (.d (.lit false)))=>forceV (opv K y) fun v=>k v e0
   | _=>False) : Snd P N ids o K B k:=by
 have m1 : c ∈ o.op.operands:=by rw [ho]; simp [Op.operands]
 have m2 : x ∈ o.op.operands:=by rw [ho]; simp [Op.operands]
 have m3 : y ∈ o.op.operands:=by rw [ho]; simp [Op.operands]
 split at h
 · rename_i hc
   rw [forceV_eq] at h
   exact Snd.of h <| OpOK.two hc rfl m1 m2 fun K' ρ I a w hS e1 e2=>⟨_,by simp [execOp,ho,hS.lit e1,asBool],hS.ev e2⟩
 · rename_i hc
   rw [forceV_eq] at h
   exact Snd.of h <| OpOK.two hc rfl m1 m3 fun K' ρ I a w hS e1 e2=>⟨_,by simp [execOp,ho,hS.lit e1,asBool],hS.ev e2⟩
 · exact h.elim
theorem snd_not {T : TypeId} {x : Operand} (ho : o.op = .unOp .not T x) (h : match opv K x with
   | .c (.one (.d (.lit true)))=>k (.c (.one (.d (.lit false)))) e0
   | .c (.one (.d (.lit false)))=>k (.c (.one (.d (.lit true)))) e0
   | .c (.one (.d (.bool b)))=>k (.c (.one (.d (.bool (!b))))) e0
   | _=>False) : Snd P N ids o K B k:=by
 have m1 : x ∈ o.op.operands:=by rw [ho]; simp [Op.operands]
 split at h
 · rename_i hc; exact Snd.of h <| OpOK.one hc m1 fun K' ρ I a w hS e1=>⟨_,by simp [execOp,ho,hS.lit e1,Op.unary],rfl⟩
 · rename_i hc; exact Snd.of h <| OpOK.one hc m1 fun K' ρ I a w hS e1=>⟨_,by simp [execOp,ho,hS.lit e1,Op.unary],rfl⟩
 · rename_i b hc; exact Snd.of h <| OpOK.one hc m1 fun K' ρ I a w hS e1=>⟨_,by simp [execOp,ho,hS.bool e1,Op.unary],rfl⟩
 · exact h.elim
theorem DenCL.get {ρ : Nat → Pl} {I : Nat → Prop} {w : World} : ∀ (l : List SC) (vs : List Value),DenCL ρ I w l vs → ∀ (i : Nat) (s : SC),l[i]? = some s → ∃ v,vs[i]? = some v ∧ DenC ρ I w s v
 | [],_,h,i,s,hs=>by simp at hs
 | t :: l,_,⟨v,r,e,h1,h2⟩,0,s,hs=>by
   simp only [List.getElem?_cons_zero,Option.some.injEq] at hs
   subst hs e
   exact ⟨v,rfl,h1⟩
 | t :: l,_,⟨v,r,e,h1,h2⟩,i + 1,s,hs=>by
   subst e
   simpa using DenCL.get l r h2 i s (by simpa using hs)
theorem snd_extract {x : Operand} {i : Nat} (ho : o.op = .extract x i) (h : match opv K x with
   | .tup l=>match l[i]? with
     | some v=>k (.c v) e0
     | none=>False
   | _=>False) : Snd P N ids o K B k:=by
 have m1 : x ∈ o.op.operands:=by rw [ho]; simp [Op.operands]
 split at h
 · rename_i l hl
   split at h
   · rename_i v hv
     refine Snd.of h <| OpOK.one hl m1 fun K' ρ I a w hS e1=>?_
     obtain ⟨vs,e,h2⟩:=hS.ev e1
     obtain ⟨u,hu,h3⟩:=DenCL.get l vs h2 i v hv
     exact ⟨u,by simp [execOp,ho,e,Instr.extract,hu],h3⟩
   · exact h.elim
 · exact h.elim
theorem snd_nilCheck {x : Operand} (ho : o.op = .nilCheck x) (h : match opv K x with
   | .c (.one (.ptr c o))=>k (.c (.one (.ptr c o))) e0
   | .c (.one (.el u y o))=>k (.c (.one (.el u y o))) e0
   | .c (.one (.rp c s i o))=>k (.c (.one (.rp c s i o))) e0
   | _=>False) : Snd P N ids o K B k:=by
 have m1 : x ∈ o.op.operands:=by rw [ho]; simp [Op.operands]
 split at h
 · rename_i c p hc; exact Snd.of h <| OpOK.one hc m1 fun K' ρ I a w hS e1=>⟨_,by simp [execOp,ho,hS.ptr e1],rfl⟩
 · rename_i u y p hc
   refine Snd.of h <| OpOK.one hc m1 fun K' ρ I a w hS e1=>⟨a.eval x,?_,hS.ev e1⟩
   obtain ⟨b,q,e,_⟩:=hS.ev e1
   simp [execOp,ho,e]
 · rename_i c s i p hc; exact Snd.of h <| OpOK.one hc m1 fun K' ρ I a w hS e1=>⟨_,by simp [execOp,ho,hS.rp e1],rfl⟩
 · exact h.elim
theorem exec_field {ev : Operand → Value} {T : TypeId} {x : Operand} {f g off d : Nat} {w : World} {fs : Array Field} {fd : Field} {i : TypeInfo} (h1 : ev x = .pointer (some ⟨g,off,none⟩)) (ho : o.op = .fieldAddr T x f)
   (hT : P.underlying T = some (.struct fs)) (hfd : fs[f]? = some fd) (hd : fd.offset = d) (hi : P.info? fd.type = some i) (hsz : i.size ≠ 0) : (execOp ev o).run P w = .ok (.value (.pointer (some ⟨g,off + d,none⟩))) w:=by
 subst hd
 simp [execOp,ho,h1,Instr.fieldAt,run_underlying hT,hfd,Instr.sureAddr,fieldPlace,sizeOf,typeInfo,hi,hsz,addr_add]
theorem snd_field (hP : TblOK P tt) {T : TypeId} {x : Operand} {f : Nat} (ho : o.op = .fieldAddr T x f) (h : match offOf tt T f with
   | some (d,_)=>match opv K x with
     | .c (.one (.ptr c o))=>k (.c (.one (.ptr c (o + d)))) e0
     | .c (.one (.el u y o))=>k (.c (.one (.el u y (o + d)))) e0
     | .c (.one (.rp c s i o))=>k (.c (.one (.rp c s i (o + d)))) e0
     | _=>False
   | none=>False) : Snd P N ids o K B k:=by
 have m1 : x ∈ o.op.operands:=by rw [ho]; simp [Op.operands]
 split at h
 · rename_i d n hd
   have ⟨fs,fd,i,hT,hfd,hod,hi,hz⟩ : ∃ fs fd i,P.underlying T = some (.struct fs) ∧ fs[f]? = some fd ∧ fd.offset = d ∧ P.info? fd.type = some i ∧ i.size ≠ 0:=by
     unfold offOf at hd
     split at hd
     · rename_i ti hti
       split at hd
       · rename_i hk
         obtain ⟨i,dd,hok⟩:=hP.at_ hti
         obtain ⟨fs,hu,rfl⟩:=hok.st hk
         obtain ⟨fd,i',h1,h2,h3,h4,h5⟩:=offsL_get _ _ (hok.offs fs rfl) f d n hd
         exact ⟨fs,fd,i',hu,by simpa using h1,h2,h3,by rw [h4]; exact h5⟩
       · cases hd
     · cases hd
   split at h
   · rename_i c p hc
     exact Snd.of h <| OpOK.one hc m1 fun K' ρ I a w hS e1=>⟨_,exec_field (hS.ptr e1) ho hT hfd hod hi hz,rfl⟩
   · rename_i u y p hc
     refine Snd.of h <| OpOK.one hc m1 fun K' ρ I a w hS e1=>?_
     obtain ⟨b,q,e,h2⟩:=hS.ev e1
     exact ⟨_,exec_field e ho hT hfd hod hi hz,b,q,by rw [Nat.add_assoc],h2⟩
   · rename_i c s j p hc
     exact Snd.of h <| OpOK.one hc m1 fun K' ρ I a w hS e1=>⟨_,exec_field (hS.rp e1) ho hT hfd hod hi hz,by simp only [DenV,DenC,DenS]; rw [Nat.add_assoc]⟩
   · exact h.elim
 · exact h.elim
theorem listU_den {ρ : Nat → Pl} {I : Nat → Prop} {w : World} {u : U} {y : El u} {c : Nat → Option Value} (hy : DenU I w u y c) : ∀ (n p : Nat),p + n ≤ sz u → ∃ vs,DenL ρ I w (listU u y p n) vs ∧ ∀ (j : Nat) (v : Value),vs[j]? = some v → c (p + j) = some v
 | 0,p,_=>⟨[],rfl,fun j v h=>by simp at h⟩
 | n + 1,p,h=>by
   obtain ⟨v,h1,h2⟩:=DenU.cell u y c p hy (by omega)
   obtain ⟨vs,h3,h4⟩:=listU_den hy n (p + 1) (by omega)
   refine ⟨v :: vs,⟨v,vs,rfl,h2,h3⟩,fun j v' hj=>?_⟩
   match j with
   | 0=>simp only [List.getElem?_cons_zero,Option.some.injEq] at hj; subst hj; exact h1
   | j + 1=>rw [show p + (j + 1) = p + 1 + j by omega]; exact h4 j v' (by simpa using hj)
theorem listU_length (u : U) (y : El u) : ∀ (n p : Nat),(listU u y p n).length = n
 | 0,_=>rfl
 | n + 1,p=>by simp [listU,listU_length u y n]
theorem listU_get (u : U) (y : El u) : ∀ (n p i : Nat),i < n → (listU u y p n)[i]? = some (.d (cellU u y (p + i)))
 | 0,p,i,h=>by omega
 | n + 1,p,0,h=>rfl
 | n + 1,p,i + 1,h=>by
   have:=listU_get u y n (p + 1) i (by omega)
   rw [show p + 1 + i = p + (i + 1) by omega] at this
   simpa [listU] using this
/-- Cells that are a value's are that value. -/
theorem listU_mk {ρ : Nat → Pl} {I : Nat → Prop} {w : World} {u : U} {y : El u} (hw : WfU u y) {vs : List Value} (h : DenL ρ I w (listU u y 0 (sz u)) vs) : DenU I w u y (fun j=>vs[j]?) :=
 DenU.mk u y _ hw fun j hj=>by
   have hg:=listU_get u y (sz u) 0 j hj
   rw [Nat.zero_add] at hg
   obtain ⟨v,e1,e2⟩:=DenL.get _ _ h j _ hg
   exact ⟨v,e1,e2⟩
/-- A load out of data that lies at a place. -/
theorem load_el {T : TypeId} {x : Operand} (ho : o.op = .load T x) {ti : TI} {i : TypeInfo} {d : TypeDesc} (hok : TIok P T ti i d) {u : U} {y : El u} {p : Nat} {a : Act} {w : World} {I : Nat → Prop} {ρ : Nat → Pl} {b q : Nat}
   (he : a.eval x = .pointer (some ⟨b,q + p,none⟩)) (hy : DenU I w u y (fun j=>w.cell? ⟨b,q + j,none⟩)) :
   (ti.row = true → p + ti.size ≤ sz u → ∃ r,(execOp a.eval o).run P w = .ok (.value r) w ∧ DenV ρ I w (.c (.agg (listU u y p ti.size))) r) ∧
   (ti.row = false → p < sz u → ∃ r,(execOp a.eval o).run P w = .ok (.value r) w ∧ DenV ρ I w (.c (.one (.d (cellU u y p)))) r):=by
 constructor
 · intro hr hle
   obtain ⟨vs,h1,h2⟩:=listU_den (ρ:=ρ) hy ti.size p hle
   refine ⟨_,exec_loadn (cs:=vs) ho he hok.und (hok.row.trans hr) hok.info (by rw [DenL.length _ _ h1,listU_length]; exact hok.size) (fun j v hj=>?_),vs,rfl,h1⟩
   rw [Nat.add_assoc]
   exact h2 j v hj
 · intro hr hlt
   obtain ⟨v,h1,h2⟩:=DenU.cell u y _ p hy hlt
   exact ⟨v,exec_load1 ho he hok.und (hok.row.trans hr) h1,h2⟩
theorem row_at {ρ : Nat → Pl} {I F : Nat → Prop} {w : World} {p : Pl} {e : TypeId} {u : U} {xs : List (El u)} (h : Holds ρ I F w p (.row e u xs)) {i : Nat} {y : El u} (hy : lget xs i = some y) :
   DenU I w u y (fun j=>w.cell? ⟨p.blk,i * sz u + j,none⟩):=by
 obtain ⟨h1,h2,cs,h3,h4⟩:=h
 refine DenU.mono (Ext.refl _ _) u y _ _ (fun j v hj=>?_) (h4 i y hy)
 have hj : cs[i * sz u + j]? = some v:=hj
 have hx:=lget_lt hy
 have h3':=h3
 obtain ⟨hl,h3⟩:=h3
 rcases h3 with ⟨_,h0⟩ | ⟨g,cap,cur,hv,_,hg,_,_,_,ht⟩
 · omega
 · have hb : p.hdr.ownBlock = some g:=by rw [hv]; rfl
   rw [← h2 g hb]
   have:=h3'.cells hb (i * sz u + j) v hj
   rwa [addr_add,Nat.zero_add] at this
theorem snd_load (hP : TblOK P tt) {T : TypeId} {x : Operand} (ho : o.op = .load T x) (h : match tt.find T with
   | some ti=>match opv K x with
     | .c (.one (.ptr c o))=>match lookB B c with
       | some (.cells l)=>match ti.row with
         | true=>match Nat.ble (o + ti.size) l.length with
           | true=>forceL ((l.drop o).take ti.size) fun l=>k (.c (.agg l)) ⟨[c],[],[]⟩
           | false=>False
         | false=>match l[o]? with
           | some s=>forceS s fun s=>k (.c (.one s)) ⟨[c],[],[]⟩
           | none=>False
       | _=>False
     | .c (.one (.el u y o))=>match ti.row with
       | true=>match Nat.ble (o + ti.size) (sz u) with
         | true=>forceL (listU u y o ti.size) fun l=>k (.c (.agg l)) e0
         | false=>False
       | false=>match Nat.blt o (sz u) with
         | true=>forceD (cellU u y o) fun x=>k (.c (.one (.d x))) e0
         | false=>False
     | .c (.one (.rp c s i o))=>match lookB B c with
       | some (.row _ u xs)=>match Nat.beq s (sz u) with
         | true=>∃ y,lget xs i = some y ∧ match ti.row with
           | true=>match Nat.ble (o + ti.size) (sz u) with
             | true=>forceL (listU u y o ti.size) fun l=>k (.c (.agg l)) ⟨[c],[],[]⟩
             | false=>False
           | false=>match Nat.blt o (sz u) with
             | true=>forceD (cellU u y o) fun x=>k (.c (.one (.d x))) ⟨[c],[],[]⟩
             | false=>False
         | false=>False
       | _=>False
     | _=>False
   | none=>False) : Snd P N ids o K B k:=by
 have m1 : x ∈ o.op.operands:=by rw [ho]; simp [Op.operands]
 split at h
 · rename_i ti hti
   obtain ⟨i,d,hok⟩:=hP.at_ hti
   split at h
   · rename_i c p hc
     split at h
     · rename_i l hl
       have key : ∀ (K' : KL) (B' : BL),(∀ x,x ∈ o.op.operands → opv K' x = opv K x) → (∀ d,d ∈ [c] → lookB B' d = lookB B d) → ∀ (C : Ctx) (ρ : Nat → Pl) (F : Nat → Nat → Prop) (a : Act) (w : World),Mem ids C B' ρ F w → Slots K' ρ (Imm C B' F w) a w →
           a.eval x = .pointer (some ⟨(ρ c).blk,p,none⟩) ∧ ∃ vs T,w.heap[(ρ c).blk]? = some (.cells (List.toArray vs) T (0,0)) ∧ DenL ρ (Imm C B' F w) w l vs:=fun K' B' h1 h2 C ρ F a w hM hS=>by
         have hh:=hM.holds c _ ((h2 c (by simp)).trans hl)
         exact ⟨hS.ptr ((h1 x m1).trans hc),hh.2⟩
       split at h
       · rename_i hr
         split at h
         · rename_i hle
           have hle:=Nat.le_of_ble_eq_true hle
           rw [forceL_eq] at h
           refine Snd.of h <| OpOK.val fun K' B' h1 h2 C ρ F a w hM hS=>?_
           obtain ⟨e1,vs,T',hb,hd⟩:=key K' B' h1 h2 C ρ F a w hM hS
           have hd2:=DenL.tk ti.size _ _ (DenL.dp p _ _ hd)
           refine ⟨_,exec_loadn (cs:=(vs.drop p).take ti.size) ho e1 hok.und (hok.row.trans hr) hok.info ?_ (fun j u hj=>?_),_,rfl,hd2⟩
           · rw [DenL.length _ _ hd2,List.length_take,List.length_drop,hok.size]
             omega
           · rw [List.getElem?_take] at hj
             split at hj
             · rw [List.getElem?_drop] at hj
               exact cell_of hb hj
             · cases hj
         · exact h.elim
       · rename_i hr
         split at h
         · rename_i s hs
           rw [forceS_eq] at h
           refine Snd.of h <| OpOK.val fun K' B' h1 h2 C ρ F a w hM hS=>?_
           obtain ⟨e1,vs,T',hb,hd⟩:=key K' B' h1 h2 C ρ F a w hM hS
           obtain ⟨v,hv,hd2⟩:=DenL.get _ _ hd p s hs
           exact ⟨v,exec_load1 ho e1 hok.und (hok.row.trans hr) (cell_of hb hv),hd2⟩
         · exact h.elim
     · exact h.elim
   · rename_i u y p hc
     split at h
     · rename_i hr
       split at h
       · rename_i hle
         rw [forceL_eq] at h
         refine Snd.of h <| OpOK.one hc m1 fun K' ρ I a w hS e1=>?_
         obtain ⟨b,q,e,_,hy⟩:=hS.ev e1
         exact (load_el ho hok e hy).1 hr (Nat.le_of_ble_eq_true hle)
       · exact h.elim
     · rename_i hr
       split at h
       · rename_i hlt
         rw [forceD_eq] at h
         refine Snd.of h <| OpOK.one hc m1 fun K' ρ I a w hS e1=>?_
         obtain ⟨b,q,e,_,hy⟩:=hS.ev e1
         exact (load_el ho hok e hy).2 hr (by simpa [Nat.blt_eq] using hlt)
       · exact h.elim
   · rename_i c s j p hc
     split at h
     · rename_i e u xs hl
       split at h
       · rename_i hs
         have hs:=Nat.eq_of_beq_eq_true hs
         subst hs
         obtain ⟨y,hy,h⟩:=h
         have key : ∀ (K' : KL) (B' : BL),(∀ x,x ∈ o.op.operands → opv K' x = opv K x) → (∀ d,d ∈ [c] → lookB B' d = lookB B d) → ∀ (C : Ctx) (ρ : Nat → Pl) (F : Nat → Nat → Prop) (a : Act) (w : World),Mem ids C B' ρ F w → Slots K' ρ (Imm C B' F w) a w →
             a.eval x = .pointer (some ⟨(ρ c).blk,j * sz u + p,none⟩) ∧ DenU (Imm C B' F w) w u y (fun i=>w.cell? ⟨(ρ c).blk,j * sz u + i,none⟩):=fun K' B' h1 h2 C ρ F a w hM hS =>
           ⟨hS.rp ((h1 x m1).trans hc),row_at (hM.holds c _ ((h2 c (by simp)).trans hl)) hy⟩
         split at h
         · rename_i hr
           split at h
           · rename_i hle
             rw [forceL_eq] at h
             refine Snd.of h <| OpOK.val fun K' B' h1 h2 C ρ F a w hM hS=>?_
             obtain ⟨e1,e2⟩:=key K' B' h1 h2 C ρ F a w hM hS
             exact (load_el ho hok e1 e2).1 hr (Nat.le_of_ble_eq_true hle)
           · exact h.elim
         · rename_i hr
           split at h
           · rename_i hlt
             rw [forceD_eq] at h
             refine Snd.of h <| OpOK.val fun K' B' h1 h2 C ρ F a w hM hS=>?_
             obtain ⟨e1,e2⟩:=key K' B' h1 h2 C ρ F a w hM hS
             exact (load_el ho hok e1 e2).2 hr (by simpa [Nat.blt_eq] using hlt)
           · exact h.elim
       · exact h.elim
     · exact h.elim
   · exact h.elim
 · exact h.elim
end
end Go.Proofs.YteoamepgonpdlaaGreat
