/-
Part 2 of the proof that stands in YteoamepgonpdlaaGreatPbRow, with what it needs from the parts ahead; the parts of this text: Vc.
-/
import Derived.Test.YteoamepgonpdlaaGreatPb1
/-!
  A generator of conditions: what is to be shown of a piece of code, as one proposition that unfolds by computing. (That it suffices: Sound, Draw.)
-/
namespace Go.Proofs.YteoamepgonpdlaaGreat
set_option linter.unusedVariables false
set_option linter.unusedSimpArgs false
open Go.RowKit
/-! ### tables of types -/
inductive Kd where
 | int (k : IntKind)
 | bool
 | str
 | ptr (e : Nat)
 | sl (e : Nat)
 | st
 | arr (n e : Nat)
 | mp (k e : Nat)
 | other
structure TI where
 kd : Kd
 size : Nat
 row : Bool
 zero : List S1
 offs : List (Nat × Nat)
 u : Option U
 bytes : Nat
inductive Tr where
 | leaf
 | node (l : Tr) (k : Nat) (x : TI) (r : Tr)
def Tr.find : Tr → Nat → Option TI
 | .leaf,_ => none
 | .node l k x r,n => match Nat.blt n k with
   | true => l.find n
   | false => match Nat.beq n k with
     | true => some x
     | false => r.find n
/-! ### values written out -/
def forceD (x : D) (k : D → Prop) : Prop := match x with
 | .int i n => k (.int i n)
 | .lit true => k (.lit true)
 | .lit false => k (.lit false)
 | .bool b => k (.bool b)
 | .str s => k (.str s)
 | .adr x => k (.adr x)
 | .hdl x => k (.hdl x)
 | .fn x => k (.fn x)
 | .lst u xs => k (.lst u xs)
def forceS (s : S1) (k : S1 → Prop) : Prop := match s with
 | .d x => forceD x fun x => k (.d x)
 | .ptr c o => k (.ptr c o)
 | .own c => k (.own c)
 | .el u x o => k (.el u x o)
 | .rp c s i o => k (.rp c s i o)
 | .os c s o n => k (.os c s o n)
 | .mp c => k (.mp c)
 | .clo f l => k (.clo f l)
 | .nils => k .nils
 | .raw v => k (.raw v)
 | .any => k .any
def forceL (l : List S1) (k : List S1 → Prop) : Prop := match l with
 | [] => k []
 | s :: l => forceS s fun s => forceL l fun l => k (s :: l)
def forceC (x : SC) (k : SC → Prop) : Prop := match x with
 | .one s => forceS s fun s => k (.one s)
 | .agg l => forceL l fun l => k (.agg l)
 | .dat u x => k (.dat u x)
def forceCL (l : List SC) (k : List SC → Prop) : Prop := match l with
 | [] => k []
 | s :: l => forceC s fun s => forceCL l fun l => k (s :: l)
def forceV (x : SV) (k : SV → Prop) : Prop := match x with
 | .c x => forceC x fun x => k (.c x)
 | .tup l => forceCL l fun l => k (.tup l)
 | .undef => k .undef
theorem forceD_eq (x : D) (k : D → Prop) : forceD x k = k x := by
 cases x with
 | lit b => cases b <;> rfl
 | _ => rfl
theorem forceS_eq (x : S1) (k : S1 → Prop) : forceS x k = k x := by
 cases x with
 | d x => simp only [forceS,forceD_eq]
 | _ => rfl
theorem forceL_eq (l : List S1) (k : List S1 → Prop) : forceL l k = k l := by
 induction l generalizing k with
 | nil => rfl
 | cons s l ih => simp only [forceL,forceS_eq,ih]
theorem forceC_eq (x : SC) (k : SC → Prop) : forceC x k = k x := by
 cases x with
 | one x => simp only [forceC,forceS_eq]
 | agg l => simp only [forceC,forceL_eq]
 | dat u x => rfl
theorem forceCL_eq (l : List SC) (k : List SC → Prop) : forceCL l k = k l := by
 induction l generalizing k with
 | nil => rfl
 | cons s l ih => simp only [forceCL,forceC_eq,ih]
theorem forceV_eq (x : SV) (k : SV → Prop) : forceV x k = k x := by
 cases x with
 | c x => simp only [forceV,forceC_eq]
 | tup l => simp only [forceV,forceCL_eq]
 | undef => rfl
/-! ### what an operation does to the blocks -/
/-- Blocks that it looks at; those that it makes; what becomes of them (none: given up). -/
structure Eff where
 rc : List Nat
 nw : List Nat
 wc : List (Nat × Option Ch)
abbrev e0 : Eff := ⟨[],[],[]⟩
def applyB : List (Nat × Option Ch) → BL → BL
 | [],B => B
 | (c,none) :: l,B => applyB l (dropB B c)
 | (c,some ch) :: l,B => applyB l ((c,ch) :: B)
def noK (c : Nat) : KL → Bool
 | [] => true
 | (_,v) :: K => !v.has c && noK c K
def noB (c : Nat) : BL → Bool
 | [] => true
 | (d,ch) :: B => !Nat.beq d c && !ch.has c && noB c B
def freshB (ids : List Nat) (K : KL) (B : BL) (c : Nat) : Bool := noK c K && noB c B && !ids.contains c
@[reducible] def v1 (s : S1) : SV := .c (.one s)
@[reducible] def vI (n : Int) : SV := .c (.one (.d (.int .i64 n)))
@[reducible] def vB (b : Bool) : SV := .c (.one (.d (.bool b)))
@[reducible] def vLit (b : Bool) : SV := .c (.one (.d (.lit b)))
@[reducible] def vS (s : List UInt8) : SV := .c (.one (.d (.str s)))
@[reducible] def vL (u : U) (xs : List (El u)) : SV := .c (.one (.d (.lst u xs)))
@[reducible] def vP (c : Nat) : SV := .c (.one (.ptr c 0))
@[reducible] def vOwn (c : Nat) : SV := .c (.one (.own c))
/-- One cell,whatever it is. -/
def S1.ok : S1 → Bool
 | .any => false
 | .raw (.agg _) => false
 | .raw (.tuple _) => false
 | _ => true
def okL : List S1 → Bool
 | [] => true
 | s :: l => s.ok && okL l
def cellsV : SV → Option (List S1)
 | .c (.one s) => match s.ok with
   | true => some [s]
   | false => none
 | .c (.agg l) => match okL l with
   | true => some l
   | false => none
 | _ => none
def spl (l : List S1) (o : Nat) (cs : List S1) : List S1 := l.take o ++ cs ++ l.drop (o + cs.length)
/-- The cells of a literal: zeros,and the parts laid into them. -/
def fillP (K : KL) (offs : Nat → Option (Nat × Nat)) : List (Nat × Operand) → List S1 → Option (List S1)
 | [],l => some l
 | (i,x) :: ps,l => match offs i,cellsV (opv K x) with
   | some (o,n),some cs => match Nat.beq cs.length n,Nat.ble (o + n) l.length with
     | true,true => fillP K offs ps (spl l o cs)
     | _,_ => none
   | _,_ => none
def eqU : (u v : U) → Option (PLift (u = v))
 | .int .i64,.int .i64 => some ⟨rfl⟩
 | .int .u8,.int .u8 => some ⟨rfl⟩
 | .int .u16,.int .u16 => some ⟨rfl⟩
 | .int .u32,.int .u32 => some ⟨rfl⟩
 | .int .u64,.int .u64 => some ⟨rfl⟩
 | .int .i32,.int .i32 => some ⟨rfl⟩
 | .u8,.u8 => some ⟨rfl⟩
 | .bool,.bool => some ⟨rfl⟩
 | .str,.str => some ⟨rfl⟩
 | .adr,.adr => some ⟨rfl⟩
 | .hdl,.hdl => some ⟨rfl⟩
 | .fn,.fn => some ⟨rfl⟩
 | .sl u,.sl v => match eqU u v with
   | some ⟨h⟩ => some ⟨congrArg U.sl h⟩
   | none => none
 | .pr u u',.pr v v' => match eqU u v,eqU u' v' with
   | some ⟨h⟩,some ⟨h'⟩ => some ⟨h ▸ h' ▸ rfl⟩
   | _,_ => none
 | .arr n u,.arr m v => match eqU u v with
   | some ⟨h⟩ => if hn : n = m then some ⟨hn ▸ h ▸ rfl⟩ else none
   | none => none
 | _,_ => none
def eqK : IntKind → IntKind → Bool
 | .i64,.i64 => true
 | .u8,.u8 => true
 | .u16,.u16 => true
 | .u32,.u32 => true
 | .u64,.u64 => true
 | .i32,.i32 => true
 | .i16,.i16 => true
 | .i8,.i8 => true
 | _,_ => false
def castL {u v : U} (h : u = v) (xs : List (El u)) : List (El v) := match v,h with
 | _,rfl => xs
def castE {u v : U} (h : u = v) (x : El u) : El v := match v,h with
 | _,rfl => x
/-! ### what one value lets another one stand for -/
def leD (x y : D) : Prop := match x,y with
 | .int k a,.int k' b => match eqK k k' with
   | true => a = b
   | false => False
 | .str a,.str b => a = b
 | .adr a,.adr b => a = b
 | .hdl a,.hdl b => a = b
 | .fn a,.fn b => a = b
 | .bool a,.bool b => a = b
 | .lit a,.lit b => a = b
 | .lit a,.bool b => a = b
 | .lst u xs,.lst v ys => match eqU u v with
   | some ⟨h⟩ => castL h xs = ys
   | none => False
 | _,_ => False
def leS (s t : S1) : Prop := match t,s with
 | .any,_ => True
 | .d y,.d x => leD x y
 | .d (.lst u ys),.nils => ys = []
 | t,s => s = t
def leL : List S1 → List S1 → Prop
 | [],[] => True
 | s :: l,t :: m => leS s t ∧ leL l m
 | _,_ => False
def leC (s t : SC) : Prop := match s,t with
 | .one s,.one t => leS s t
 | .agg l,.agg m => leL l m
 | .agg _,.one .any => True
 | .dat u x,.dat v y => match eqU u v with
   | some ⟨h⟩ => castE h x = y
   | none => False
 | .dat _ _,.one .any => True
 | _,_ => False
def leCL : List SC → List SC → Prop
 | [],[] => True
 | s :: l,t :: m => leC s t ∧ leCL l m
 | _,_ => False
def leV (s t : SV) : Prop := match s,t with
 | .c s,.c t => leC s t
 | .tup l,.tup m => leCL l m
 | .undef,.undef => True
 | _,.c (.one .any) => True
 | _,_ => False
def leVL : List SV → List SV → Prop
 | [],[] => True
 | s :: l,t :: m => leV s t ∧ leVL l m
 | _,_ => False
/-- What is to be shown,if anything. -/
def anyP : Option Prop → Option Prop → Option Prop
 | none,q => q
 | some p,none => some p
 | some p,some q => some (p ∧ q)
def PropO : Option Prop → Prop
 | none => True
 | some p => p
def decInt (k : IntKind) : List S1 → Option (Int × List S1 × Option Prop)
 | .d (.int k' n) :: l => match eqK k' k with
   | true => some (n,l,none)
   | false => none
 | _ => none
def decU8 : List S1 → Option (UInt8 × List S1 × Option Prop)
 | .d (.int k' n) :: l => match eqK k' .u8 with
   | true => some (UInt8.ofNat n.toNat,l,some (0 ≤ n ∧ n < 256))
   | false => none
 | _ => none
def decBool : List S1 → Option (Bool × List S1 × Option Prop)
 | .d (.lit b) :: l => some (b,l,none)
 | .d (.bool b) :: l => some (b,l,none)
 | _ => none
def decStr : List S1 → Option (List UInt8 × List S1 × Option Prop)
 | .d (.str s) :: l => some (s,l,none)
 | _ => none
def decAdr : List S1 → Option (Option Nat × List S1 × Option Prop)
 | .d (.adr x) :: l => some (x,l,none)
 | .raw (.pointer none) :: l => some (none,l,none)
 | _ => none
def decHdl : List S1 → Option (Option (Nat × Nat × Nat) × List S1 × Option Prop)
 | .d (.hdl x) :: l => some (x,l,none)
 | .nils :: l => some (none,l,none)
 | _ => none
def adrCaps : List Cap → Option (List Nat)
 | [] => some []
 | .d (.adr (some b)) :: l => match adrCaps l with
   | some r => some (b :: r)
   | none => none
 | _ => none
def decFn : List S1 → Option ((Nat × List Nat) × List S1 × Option Prop)
 | .d (.fn x) :: l => some (x,l,none)
 | .clo f m :: l => match adrCaps m with
   | some bs => some ((f,bs),l,none)
   | none => none
 | _ => none
def decSl (u : U) : List S1 → Option (List (El u) × List S1 × Option Prop)
 | .nils :: l => some ([],l,none)
 | .d (.lst v xs) :: l => match eqU v u with
   | some ⟨h⟩ => some (castL h xs,l,none)
   | none => none
 | _ => none
/-- The value that cells are,the cells behind it,and what is to be shown for it. -/
def decU : (u : U) → List S1 → Option (El u × List S1 × Option Prop)
 | .int k,l => decInt k l
 | .u8,l => decU8 l
 | .bool,l => decBool l
 | .str,l => decStr l
 | .adr,l => decAdr l
 | .hdl,l => decHdl l
 | .fn,l => decFn l
 | .sl u,l => decSl u l
 | .pr u v,l => match decU u l with
   | some (x,l,p) => match decU v l with
     | some (y,l,q) => some ((x,y),l,anyP p q)
     | none => none
   | none => none
 | .arr _ _,_ => none
def decs (u : U) : Nat → List S1 → Option (List (El u) × Option Prop)
 | 0,[] => some ([],none)
 | 0,_ => none
 | n + 1,l => match decU u l with
   | some (x,l,p) => match decs u n l with
     | some (xs,q) => some (x :: xs,anyP p q)
     | none => none
   | none => none
def repL (n : Nat) (l : List S1) : List S1 := match n with
 | 0 => []
 | n + 1 => l ++ repL n l
def listU (u : U) (x : El u) (o : Nat) : Nat → List S1
 | 0 => []
 | n + 1 => .d (cellU u x o) :: listU u x (o + 1) n
/-- The number fits its kind. -/
def inK (k : IntKind) (n : Int) : Prop := match k with
 | .i64 => -9223372036854775808 ≤ n ∧ n ≤ 9223372036854775807
 | .u8 => 0 ≤ n ∧ n < 256
 | .u16 => 0 ≤ n ∧ n < 65536
 | .u32 => 0 ≤ n ∧ n < 4294967296
 | .u64 => 0 ≤ n ∧ n < 18446744073709551616
 | .i32 => -2147483648 ≤ n ∧ n ≤ 2147483647
 | .i16 => -32768 ≤ n ∧ n ≤ 32767
 | .i8 => -128 ≤ n ∧ n ≤ 127
def callable (P : Program) (f : FuncId) : Bool := match P.funcs[f]? with
 | some fn => !(fn.name == "runtime.NumGoroutine" || fn.body.isNone)
 | none => false
/-- What a call of a function makes of the blocks Bi (those of 'nw' are new behind it),and what it returns. (Defined in Sat's words.) -/
def Fn (P : Program) (f : FuncId) (args : List SV) (Bi : BL) (nw : List Nat) (res : SV) (Bo : BL) : Prop :=
 callable P f = true ∧ ∀ (ρ : Nat → Pl) (F : Nat → Nat → Prop) (I : Nat → Prop) (w : World) (vals : List Value),
   (∀ b,I b → b < w.heap.size) → (∀ c ch,lookB Bi c = some ch → Holds ρ I (F c) w (ρ c) ch) → (∀ c ch,lookB Bi c = some ch → ∀ b,F c b → b < w.heap.size ∧ ¬ I b) →
   (∀ c c' ch ch' b,lookB Bi c = some ch → lookB Bi c' = some ch' → c ≠ c' → F c b → ¬ F c' b) →
   vals.length = args.length → (∀ (i : Nat) (v : SV) (x : Value),args[i]? = some v → vals[i]? = some x → DenV ρ I w v x) →
   Calls P f vals.toArray w fun e w' => ∃ (x : Value) (ρ' : Nat → Pl) (F' : Nat → Nat → Prop),e = .returned x ∧ Fr (fun b => ∃ c ch,lookB Bi c = some ch ∧ F c b) w w' ∧ (∀ c,c ∉ nw → ρ' c = ρ c) ∧
     ∃ I' : Nat → Prop,Ext I w I' w' ∧ (∀ b,I' b → b < w'.heap.size ∧ (I b ∨ (∃ c ch,lookB Bi c = some ch ∧ F c b) ∨ w.heap.size ≤ b)) ∧
     (∀ c ch,lookB Bo c = some ch → Holds ρ' I' (F' c) w' (ρ' c) ch) ∧
     (∀ c ch,lookB Bo c = some ch → ∀ b,F' c b → b < w'.heap.size ∧ ¬ I' b ∧ ((∃ c0 ch0,lookB Bi c0 = some ch0 ∧ F c0 b) ∨ w.heap.size ≤ b)) ∧
     (∀ c c' ch ch' b,lookB Bo c = some ch → lookB Bo c' = some ch' → c ≠ c' → F' c b → ¬ F' c' b) ∧ DenV ρ' I' w' res x
/-- The blocks that a call takes stand as it wants them. -/
def subB (B : BL) : BL → Prop
 | [] => True
 | (c,ch) :: l => lookB B c = some ch ∧ subB B l
def keysB : BL → List Nat
 | [] => []
 | (c,_) :: l => c :: keysB l
def pushB : BL → List (Nat × Option Ch)
 | [] => []
 | (c,ch) :: l => (c,some ch) :: pushB l
def effB : BL → BL → List (Nat × Option Ch)
 | [],m => pushB m
 | (c,_) :: l,m => (c,none) :: effB l m
/-- Every block behind a call is one that it was given,or new. -/
def outOK (Bi : BL) (nw : List Nat) : BL → Bool
 | [] => true
 | (c,_) :: l => ((keysB Bi).contains c || nw.contains c) && !(keysB l).contains c && outOK Bi nw l
def allFresh (ids : List Nat) (K : KL) (B : BL) : List Nat → Bool
 | [] => true
 | c :: l => freshB ids K B c && !l.contains c && allFresh ids K B l
def vcCall (P : Program) (f : FuncId) (args : List SV) (ids : List Nat) (K : KL) (B : BL) (k : SV → Eff → Prop) : Prop :=
 ∃ Bi nw res Bo,Fn P f args Bi nw res Bo ∧ subB B Bi ∧ (allFresh ids K B nw && outOK Bi nw Bo) = true ∧ forceV res fun r => k r ⟨keysB Bi,nw,effB Bi Bo⟩
/-! ### the operations -/
/-- The number fits,written out; and the rest. -/
def rng (k : IntKind) (n : Int) (q : Prop) : Prop := match k with
 | .i64 => (-9223372036854775808 ≤ n ∧ n ≤ 9223372036854775807) ∧ q
 | .u8 => (0 ≤ n ∧ n < 256) ∧ q
 | .u16 => (0 ≤ n ∧ n < 65536) ∧ q
 | .u32 => (0 ≤ n ∧ n < 4294967296) ∧ q
 | .u64 => (0 ≤ n ∧ n < 18446744073709551616) ∧ q
 | .i32 => (-2147483648 ≤ n ∧ n ≤ 2147483647) ∧ q
 | .i16 => (-32768 ≤ n ∧ n ≤ 32767) ∧ q
 | .i8 => (-128 ≤ n ∧ n ≤ 127) ∧ q
theorem rng_and {k : IntKind} {n : Int} {q : Prop} (h : rng k n q) : inK k n ∧ q := by cases k <;> exact h
def capOf : List SV → Option (List Cap)
 | [] => some []
 | .c (.one (.ptr c o)) :: l => match capOf l with
   | some r => some (.p c o :: r)
   | none => none
 | .c (.one (.d x)) :: l => match capOf l with
   | some r => some (.d x :: r)
   | none => none
 | _ => none
def adrV : List Nat → List SV
 | [] => []
 | b :: l => .c (.one (.d (.adr (some b)))) :: adrV l
def capV : List Cap → List SV
 | [] => []
 | .p c o :: l => .c (.one (.ptr c o)) :: capV l
 | .d x :: l => .c (.one (.d x)) :: capV l
def vcBin (op : BinOp) (x y : SV) (k : SV → Eff → Prop) : Prop := match x,y with
 | .c (.one (.d (.int i a))),.c (.one (.d (.int j b))) => match eqK i j,op with
   | true,.add => rng i (a + b) (k (.c (.one (.d (.int i (a + b))))) e0)
   | true,.sub => rng i (a - b) (k (.c (.one (.d (.int i (a - b))))) e0)
   | true,.mul => rng i (a * b) (k (.c (.one (.d (.int i (a * b))))) e0)
   | true,.quo => (0 ≤ a ∧ 0 < b) ∧ rng i (a / b) (k (.c (.one (.d (.int i (a / b))))) e0)
   | true,.rem => (0 ≤ a ∧ 0 < b) ∧ rng i (a % b) (k (.c (.one (.d (.int i (a % b))))) e0)
   | _,.shl => match eqK i .i64 with
     | true => (0 ≤ a ∧ 0 ≤ b ∧ b ≤ 64) ∧ rng i (a * (2 ^ b.toNat : Nat)) (k (.c (.one (.d (.int i (a * (2 ^ b.toNat : Nat)))))) e0)
     | false => False
   | _,.shr => match eqK i .i64 with
     | true => (0 ≤ a ∧ 0 ≤ b ∧ b ≤ 64) ∧ k (.c (.one (.d (.int i (a / (2 ^ b.toNat : Nat)))))) e0
     | false => False
   | true,.or => match eqK i .i64 with
     | true => (0 ≤ a ∧ a ≤ 9223372036854775807 ∧ 0 ≤ b ∧ b ≤ 9223372036854775807) ∧ k (.c (.one (.d (.int i ((a.toNat ||| b.toNat : Nat) : Int))))) e0
     | false => False
   | true,.eql => k (.c (.one (.d (.bool (decide (a = b)))))) e0
   | true,.neq => k (.c (.one (.d (.bool (!decide (a = b)))))) e0
   | true,.lss => k (.c (.one (.d (.bool (decide (a < b)))))) e0
   | true,.leq => k (.c (.one (.d (.bool (decide (a ≤ b)))))) e0
   | true,.gtr => k (.c (.one (.d (.bool (decide (b < a)))))) e0
   | true,.geq => k (.c (.one (.d (.bool (decide (b ≤ a)))))) e0
   | _,_ => False
 | .c (.one (.d (.str a))),.c (.one (.d (.str b))) => match op with
   | .add => a.length + b.length ≤ 4294967296 ∧ k (.c (.one (.d (.str (a ++ b))))) e0
   | .eql => k (.c (.one (.d (.bool (decide (a = b)))))) e0
   | .neq => k (.c (.one (.d (.bool (!decide (a = b)))))) e0
   | .lss => k (.c (.one (.d (.bool (Op.bytesLess a b))))) e0
   | .leq => k (.c (.one (.d (.bool (Op.bytesLess a b || decide (a = b)))))) e0
   | .gtr => k (.c (.one (.d (.bool (!(Op.bytesLess a b || decide (a = b))))))) e0
   | .geq => k (.c (.one (.d (.bool (!Op.bytesLess a b))))) e0
   | _ => False
 | .c (.one (.ptr _ _)),.c (.one (.raw (.pointer none))) => match op with
   | .eql => k (.c (.one (.d (.lit false)))) e0
   | .neq => k (.c (.one (.d (.lit true)))) e0
   | _ => False
 | .c (.one (.raw (.pointer none))),.c (.one (.raw (.pointer none))) => match op with
   | .eql => k (.c (.one (.d (.lit true)))) e0
   | .neq => k (.c (.one (.d (.lit false)))) e0
   | _ => False
 | _,_ => False
def isPtr (tt : Tr) (T : Nat) : Bool := match tt.find T with
 | some ti => match ti.kd with
   | .ptr _ => true
   | _ => false
 | none => false
/-- .. to something that has a size? -/
def isPtrE (tt : Tr) (T : Nat) : Bool := match tt.find T with
 | some ti => match ti.kd with
   | .ptr e => match tt.find e with
     | some _ => true
     | none => false
   | _ => false
 | none => false
/-- Addresses compared: whether they are the same. -/
def sameP (tt : Tr) (T : Nat) (x : Option Nat) (y : SV) (k : Bool → Prop) : Prop := match y with
 | .c (.one (.raw (.pointer none))) => (∀ b,x = some b → k false) ∧ (x = none → k true)
 | .c (.one (.d (.adr y))) => match isPtrE tt T with
   | true => x = y ∧ k true
   | false => False
 | _ => False
def vcPtr (tt : Tr) (T : Nat) (op : BinOp) (x y : SV) (k : SV → Eff → Prop) : Prop := match x with
 | .c (.one (.d (.adr x))) => match op with
   | .eql => sameP tt T x y fun b => k (.c (.one (.d (.lit b)))) e0
   | .neq => sameP tt T x y fun b => k (.c (.one (.d (.lit !b)))) e0
   | _ => False
 | x => vcBin op x y k
def isBool (tt : Tr) (T : Nat) : Bool := match tt.find T with
 | some ti => match ti.kd with
   | .bool => true
   | _ => false
 | none => false
/-- Truth values compared. -/
def vcBB (op : BinOp) (a : Bool) (y : SV) (k : SV → Eff → Prop) : Prop := match op,y with
 | .eql,.c (.one (.d (.bool b))) => k (.c (.one (.d (.bool (a == b))))) e0
 | .eql,.c (.one (.d (.lit b))) => k (.c (.one (.d (.bool (a == b))))) e0
 | .neq,.c (.one (.d (.bool b))) => k (.c (.one (.d (.bool (!(a == b)))))) e0
 | .neq,.c (.one (.d (.lit b))) => k (.c (.one (.d (.bool (!(a == b)))))) e0
 | _,_ => False
def offOf (tt : Tr) (T f : Nat) : Option (Nat × Nat) := match tt.find T with
 | some ti => match ti.kd with
   | .st => ti.offs[f]?
   | _ => none
 | none => none
/-- A slice type's elements: their type and its row of the table. -/
def elemOf (tt : Tr) (T : Nat) : Option (Nat × TI) := match tt.find T with
 | some ti => match ti.kd with
   | .sl e => match tt.find e with
     | some te => some (e,te)
     | none => none
   | _ => none
 | none => none
def isStr (tt : Tr) (T : Nat) : Bool := match tt.find T with
 | some ti => match ti.kd with
   | .str => true
   | _ => false
 | none => false
def mapTy (tt : Tr) (T : Nat) : Option (Nat × Nat) := match tt.find T with
 | some ti => match ti.kd with
   | .mp k e => some (k,e)
   | _ => none
 | none => none
def lenV (tt : Tr) (T : Nat) (B : BL) (x : SV) : Option (Nat × List Nat) := match x with
 | .c (.one (.d (.str s))) => match isStr tt T with
   | true => some (s.length,[])
   | false => none
 | .c (.one (.d (.lst _ xs))) => match elemOf tt T with
   | some _ => some (xs.length,[])
   | none => none
 | .c (.one .nils) => match elemOf tt T with
   | some _ => some (0,[])
   | none => none
 | .c (.one (.own c)) => match elemOf tt T with
   | some _ => match lookB B c with
     | some (.row _ _ xs) => some (xs.length,[c])
     | _ => none
   | none => none
 | .c (.one (.mp c)) => match mapTy tt T with
   | some _ => match lookB B c with
     | some (.map _ _ es) => some (es.length,[c])
     | _ => none
   | none => none
 | _ => none
def isU8 (tt : Tr) (e : Nat) : Bool := match tt.find e with
 | some te => match te.kd,te.zero,te.size,te.bytes with
   | .int .u8,[.d (.int .u8 0)],1,1 => true
   | _,_,_,_ => false
 | none => false
def vcConv (tt : Tr) (S T : Nat) (x : SV) (B : BL) (k : SV → Eff → Prop) : Prop := match tt.find S,tt.find T with
 | some si,some ti => match si.kd,ti.kd,x with
   | .int i,.int j,.c (.one (.d (.int _ n))) => match eqK j .u8,eqK i .u8 with
     | true,false => k (.c (.one (.d (.int j (n % 256))))) e0
     | _,_ => rng j n (k (.c (.one (.d (.int j n)))) e0)
   | .str,.sl e,.c (.one (.d (.str s))) => match isU8 tt e with
     | true => s.length ≤ 4294967296 ∧ k (.c (.one (.d (.lst .u8 s)))) e0
     | false => False
   | .sl e,.str,.c (.one (.d (.lst .u8 s))) => match isU8 tt e with
     | true => k (.c (.one (.d (.str s)))) e0
     | false => False
   | .sl e,.str,.c (.one .nils) => match isU8 tt e with
     | true => k (.c (.one (.d (.str [])))) e0
     | false => False
   | .sl e,.str,.c (.one (.own c)) => match lookB B c,isU8 tt e with
     | some (.row _ .u8 s),true => k (.c (.one (.d (.str s)))) ⟨[c],[],[]⟩
     | _,_ => False
   | _,_,_ => False
 | _,_ => False
/-- The bounds of a slice,and what is to be shown of them. -/
def bnds (n : Nat) (lo hi : Option SV) : Option (Nat × Nat × Prop) := match lo,hi with
 | none,some (.c (.one (.d (.int .i64 j)))) => some (0,j.toNat,0 ≤ j ∧ j ≤ n)
 | some (.c (.one (.d (.int .i64 i)))),none => some (i.toNat,n,0 ≤ i ∧ i ≤ n)
 | some (.c (.one (.d (.int .i64 i)))),some (.c (.one (.d (.int .i64 j)))) => some (i.toNat,j.toNat,0 ≤ i ∧ i ≤ j ∧ j ≤ n)
 | none,none => some (0,n,True)
 | _,_ => none
def vcSlice (tt : Tr) (T : Nat) (x : SV) (lo hi : Option SV) (k : SV → Eff → Prop) : Prop := match x with
 | .c (.one (.d (.str s))) => match isStr tt T,bnds s.length lo hi with
   | true,some (l,h,p) => p ∧ k (.c (.one (.d (.str ((s.take h).drop l))))) e0
   | _,_ => False
 | .c (.one (.d (.lst u xs))) => match elemOf tt T,bnds xs.length lo hi with
   | some (_,te),some (l,h,p) => match Nat.beq te.size (sz u) with
     | true => p ∧ k (.c (.one (.d (.lst u ((xs.take h).drop l))))) e0
     | false => False
   | _,_ => False
 | _ => False
/-- append: onto nothing,onto a row of the call's own. -/
def vcApp (tt : Tr) (T : Nat) (x y : SV) (dst : Option Nat) (ids : List Nat) (K : KL) (B : BL) (k : SV → Eff → Prop) : Prop := match elemOf tt T,dst with
 | some (e,te),some d => match te.u,y with
   | some u,.c (.one (.d (.lst v ys))) => match eqU v u with
     | some ⟨h⟩ => match x with
       | .c (.one .nils) => ys.length ≤ 4294967296 ∧ freshB ids K B d = true ∧ k (.c (.one (.own d))) ⟨[],[d],[(d,some (.row e u (castL h ys)))]⟩
       | .c (.one (.own c)) => match lookB B c with
         | some (.row e' u' xs) => match Nat.beq e' e,eqU u' u with
           | true,some ⟨h'⟩ => xs.length + ys.length ≤ 4294967296 ∧ freshB ids K B d = true ∧ k (.c (.one (.own d))) ⟨[c],[d],[(c,none),(d,some (.row e u (castL h' xs ++ castL h ys)))]⟩
           | _,_ => False
         | _ => False
       | _ => False
     | none => False
   | some u,.c (.one (.own c2)) => match x with
     | .c (.one (.own c)) => match lookB B c,lookB B c2 with
       | some (.row e' u' xs),some (.row e2 v ys) => match Nat.beq c c2,Nat.beq e' e,eqU v u,eqU u' u with
         | false,true,some ⟨h⟩,some ⟨h'⟩ => xs.length + ys.length ≤ 4294967296 ∧ freshB ids K B d = true ∧ k (.c (.one (.own d))) ⟨[c,c2],[d],[(c,none),(d,some (.row e u (castL h' xs ++ castL h ys)))]⟩
         | _,_,_,_ => False
       | _,_ => False
     | _ => False
   | _,_ => False
 | _,_ => False
/-- append of a text's bytes onto a row of the call's own. -/
def vcAppS (tt : Tr) (T T' : Nat) (x y : SV) (dst : Option Nat) (ids : List Nat) (K : KL) (B : BL) (k : SV → Eff → Prop) : Prop := match elemOf tt T,isStr tt T',dst with
 | some (e,te),true,some d => match x,y with
   | .c (.one (.own c)),.c (.one (.d (.str s))) => match isU8 tt e,lookB B c with
     | true,some (.row e' .u8 xs) => match Nat.beq e' e with
       | true => List.length (α := UInt8) xs + s.length ≤ 4294967296 ∧ freshB ids K B d = true ∧ k (.c (.one (.own d))) ⟨[c],[d],[(c,none),(d,some (.row e .u8 (List.append (α := UInt8) xs s)))]⟩
       | false => False
     | _,_ => False
   | _,_ => False
 | _,_,_ => False
/-! maps of data -/
def keyS : (ku : U) → SV → Option (El ku)
 | .int k,.c (.one (.d (.int k' n))) => match eqK k' k with
   | true => some n
   | false => none
 | .str,.c (.one (.d (.str s))) => some s
 | _,_ => none
def dataC : (u : U) → El u → SC
 | .pr u v,x => .agg (listU (.pr u v) x 0 (sz (.pr u v)))
 | .arr n u,x => .agg (listU (.arr n u) x 0 (sz (.arr n u)))
 | .int k,x => .one (.d (cellU (.int k) x 0))
 | .u8,x => .one (.d (cellU .u8 x 0))
 | .bool,x => .one (.d (cellU .bool x 0))
 | .str,x => .one (.d (cellU .str x 0))
 | .adr,x => .one (.d (cellU .adr x 0))
 | .hdl,x => .one (.d (cellU .hdl x 0))
 | .fn,x => .one (.d (cellU .fn x 0))
 | .sl u,x => .one (.d (cellU (.sl u) x 0))
def zD : S1 → D → Bool
 | .d (.int k n),.int k' m => eqK k k' && decide (n = m)
 | .d (.str []),.str [] => true
 | .raw (.pointer none),.adr none => true
 | .nils,.hdl none => true
 | .d (.lit b),.bool c => b == c
 | .nils,.lst _ [] => true
 | _,_ => false
def zAll : List S1 → List S1 → Bool
 | [],[] => true
 | s :: l,.d x :: m => zD s x && zAll l m
 | _,_ => false
def keyOK (tt : Tr) (kt : Nat) (ku : U) : Bool := match tt.find kt with
 | some ti => match ti.kd,ku with
   | .int k,.int k' => eqK k k'
   | .str,.str => true
   | _,_ => false
 | none => false
def elOK (tt : Tr) (et : Nat) (vu : U) : Bool := match tt.find et with
 | some ti => zAll ti.zero (listU vu (dflt vu) 0 (sz vu)) && (ti.row == !oneU vu) && (oneU vu || Nat.ble 2 (sz vu))
 | none => false
def vcLookup (tt : Tr) (T : Nat) (x i : SV) (ok : Bool) (B : BL) (k : SV → Eff → Prop) : Prop := match x with
 | .c (.one (.mp c)) => match lookB B c with
   | some (.map ku vu es) => match mapTy tt T,keyS ku i with
     | some (kt,et),some key => match keyOK tt kt ku && elOK tt et vu,ok with
       | true,true => forceC (dataC vu ((mget es key).getD (dflt vu))) fun x => k (.tup [x,.one (.d (.bool (mget es key).isSome))]) ⟨[c],[],[]⟩
       | true,false => forceC (dataC vu ((mget es key).getD (dflt vu))) fun x => k (.c x) ⟨[c],[],[]⟩
       | false,_ => False
     | _,_ => False
   | _ => False
 | _ => False
/-- A value that is written to a map. -/
def valD (u : U) (x : SV) : Option (El u × Option Prop) := match x with
 | .c (.dat v y) => match eqU v u,oneU u with
   | some ⟨h⟩,false => some (castE h y,none)
   | _,_ => none
 | .c (.one s) => match oneU u,decU u [s] with
   | true,some (y,[],p) => some (y,p)
   | _,_ => none
 | .c (.agg l) => match oneU u,decU u l with
   | false,some (y,[],p) => some (y,p)
   | _,_ => none
 | _ => none
def vcUpdate (tt : Tr) (T : Nat) (x i v : SV) (B : BL) (k : SV → Eff → Prop) : Prop := match x with
 | .c (.one (.mp c)) => match lookB B c with
   | some (.map ku vu es) => match mapTy tt T,keyS ku i with
     | some (kt,et),some key => match keyOK tt kt ku,valD vu v with
       | true,some (y,p) => PropO p ∧ k .undef ⟨[c],[],[(c,some (.map ku vu (mput es key y)))]⟩
       | true,none => match v,oneU vu with
         | .c (.agg l),false => ∃ y : El vu,(WfU vu y ∧ l = listU vu y 0 (sz vu)) ∧ k .undef ⟨[c],[],[(c,some (.map ku vu (mput es key y)))]⟩
         | _,_ => False
       | false,_ => False
     | _,_ => False
   | _ => False
 | _ => False
def vcDelete (tt : Tr) (T : Nat) (x i : SV) (B : BL) (k : SV → Eff → Prop) : Prop := match x with
 | .c (.one (.mp c)) => match lookB B c with
   | some (.map ku vu es) => match mapTy tt T,keyS ku i with
     | some (kt,et),some key => match keyOK tt kt ku with
       | true => k (.tup []) ⟨[c],[],[(c,some (.map ku vu (mdel es key)))]⟩
       | false => False
     | _,_ => False
   | _ => False
 | _ => False
def vcMake (tt : Tr) (T : Nat) (dst : Option Nat) (ids : List Nat) (K : KL) (B : BL) (k : SV → Eff → Prop) : Prop := match mapTy tt T,dst with
 | some (kt,et),some d => match tt.find kt,tt.find et with
   | some ki,some ei => match ki.u,ei.u with
     | some ku,some vu => freshB ids K B d = true ∧ k (.c (.one (.mp d))) ⟨[],[d],[(d,some (.map ku vu []))]⟩
     | _,_ => False
   | _,_ => False
 | _,_ => False
/-- An array in a block,sliced: it becomes data. -/
def vcSliceArr (tt : Tr) (T c : Nat) (B : BL) (k : SV → Eff → Prop) : Prop := match tt.find T with
 | some ti => match ti.kd,ti.u with
   | .arr n e,some (.arr m v) => match Nat.beq n m && Nat.ble n 1000000 && Nat.blt 0 n,tt.find e,lookB B c with
     | true,some _,some (.cells l) => ∃ ys : List (El v),(WfU (.arr n v) ys ∧ l = listU (.arr n v) ys 0 (sz (.arr n v))) ∧ k (.c (.one (.d (.lst v ys)))) ⟨[c],[],[(c,none)]⟩
     | _,_,_ => False
   | _,_ => False
 | none => False
/-- A slice of data,taken as an array. -/
def vcToArr (tt : Tr) (T : Nat) (x : SV) (k : SV → Eff → Prop) : Prop := match tt.find T,x with
 | some ti,.c (.one (.d (.lst v xs))) => match ti.kd with
   | .arr n _ => (0 < n ∧ n ≤ List.length xs) ∧ k (.c (.one (.el (.arr n v) (List.take n xs) 0))) e0
   | _ => False
 | _,_ => False
/-- Wherever the operands and the blocks that it looks at are as here,and what it makes is new: it does this. -/
def OpOK (P : Program) (N : Nat) (ids : List Nat) (o : Oper) (K : KL) (B : BL) (v : SV) (e : Eff) : Prop :=
 ∀ (K' : KL) (B' : BL),(∀ x,x ∈ o.op.operands → opv K' x = opv K x) → (∀ c,c ∈ e.rc → lookB B' c = lookB B c) → (∀ c,c ∈ e.nw → freshB ids K' B' c = true) →
   ∀ (C : Ctx) (a : Act) (w : World),Sat N ids C K' B' a w → (∀ d,o.dst = some d → d < N) → ∀ (Kn : Act → World → Prop) (Q : Exit → Act → World → Prop),
     (∀ a' w',Sat N ids C (putK o.dst v K') (applyB e.wc B') a' w' → Kn a' w') → o.wp P a w Kn Q
/-- Bytes laid over bytes. -/
def laid (xs : List UInt8) (off n : Nat) (ys : List UInt8) : List UInt8 := xs.take off ++ ys.take n ++ xs.drop (off + (ys.take n).length)
def vcCopyTo (c off n : Nat) (ys : List UInt8) (B : BL) (k : SV → Eff → Prop) : Prop := match lookB B c with
 | some (.row e .u8 xs) => off + n ≤ xs.length ∧ k (.c (.one .any)) ⟨[c],[],[(c,some (.row e .u8 (laid xs off n ys)))]⟩
 | _ => False
/-- copy: bytes,into a row of the call's own. -/
def vcCopy (tt : Tr) (T : Nat) (x y : SV) (B : BL) (k : SV → Eff → Prop) : Prop := match elemOf tt T with
 | some (e,_) => match isU8 tt e,y with
   | true,.c (.one (.d (.lst .u8 ys))) => match x with
     | .c (.one (.own c)) => match lookB B c with
       | some (.row _ .u8 xs) => vcCopyTo c 0 (List.length xs) ys B k
       | _ => False
     | .c (.one (.os c s off n)) => match Nat.beq s 1 with
       | true => vcCopyTo c off n ys B k
       | false => False
     | _ => False
   | _,_ => False
 | none => False
/-- An operation of which the user says what it does. -/
def vcAny (P : Program) (ids : List Nat) (o : Oper) (K : KL) (B : BL) (k : SV → Eff → Prop) : Prop :=
 ∃ v e,(∀ N,OpOK P N ids o K B v e) ∧ allFresh ids K B e.nw = true ∧ forceV v fun v => k v e
def vcOp0 (P : Program) (tt : Tr) (ids : List Nat) (o : Oper) (K : KL) (B : BL) (k : SV → Eff → Prop) : Prop := match o.op with
 | .move x => forceV (opv K x) fun v => k v e0
 | .assign x => forceV (opv K x) fun v => k v e0
 | .pick c x y => match opv K c with
   | .c (.one (.d (.lit true))) => forceV (opv K x) fun v => k v e0
   | .c (.one (.d (.lit false))) => forceV (opv K y) fun v => k v e0
   | _ => False
 | .binOp op T x y _ => match op,isPtr tt T with
   | .eql,true => vcPtr tt T .eql (opv K x) (opv K y) k
   | .neq,true => vcPtr tt T .neq (opv K x) (opv K y) k
   | op,false => match opv K x with
     | .c (.one (.ptr _ _)) => False
     | .c (.one (.raw _)) => False
     | .c (.one (.d (.bool a))) => match isBool tt T with
       | true => vcBB op a (opv K y) k
       | false => False
     | .c (.one (.d (.lit a))) => match isBool tt T with
       | true => vcBB op a (opv K y) k
       | false => False
     | _ => vcBin op (opv K x) (opv K y) k
   | _,_ => False
 | .unOp .not _ x => match opv K x with
   | .c (.one (.d (.lit true))) => k (.c (.one (.d (.lit false)))) e0
   | .c (.one (.d (.lit false))) => k (.c (.one (.d (.lit true)))) e0
   | .c (.one (.d (.bool b))) => k (.c (.one (.d (.bool (!b))))) e0
   | _ => False
 | .extract x i => match opv K x with
   | .tup l => match l[i]? with
     | some v => k (.c v) e0
     | none => False
   | _ => False
 | .nilCheck x => match opv K x with
   | .c (.one (.ptr c o)) => k (.c (.one (.ptr c o))) e0
   | .c (.one (.el u y o)) => k (.c (.one (.el u y o))) e0
   | .c (.one (.rp c s i o)) => k (.c (.one (.rp c s i o))) e0
   | _ => False
 | .fieldAddr T x f => match offOf tt T f with
   | some (d,_) => match opv K x with
     | .c (.one (.ptr c o)) => k (.c (.one (.ptr c (o + d)))) e0
     | .c (.one (.el u y o)) => k (.c (.one (.el u y (o + d)))) e0
     | .c (.one (.rp c s i o)) => k (.c (.one (.rp c s i (o + d)))) e0
     | _ => False
   | none => False
 | .load T x => match tt.find T with
   | some ti => match opv K x with
     | .c (.one (.ptr c o)) => match lookB B c with
       | some (.cells l) => match ti.row with
         | true => match Nat.ble (o + ti.size) l.length with
           | true => forceL ((l.drop o).take ti.size) fun l => k (.c (.agg l)) ⟨[c],[],[]⟩
           | false => False
         | false => match l[o]? with
           | some s => forceS s fun s => k (.c (.one s)) ⟨[c],[],[]⟩
           | none => False
       | _ => False
     | .c (.one (.el u y o)) => match ti.row with
       | true => match Nat.ble (o + ti.size) (sz u) with
         | true => forceL (listU u y o ti.size) fun l => k (.c (.agg l)) e0
         | false => False
       | false => match Nat.blt o (sz u) with
         | true => forceD (cellU u y o) fun x => k (.c (.one (.d x))) e0
         | false => False
     | .c (.one (.rp c s i o)) => match lookB B c with
       | some (.row _ u xs) => match Nat.beq s (sz u) with
         | true => ∃ y,lget xs i = some y ∧ match ti.row with
           | true => match Nat.ble (o + ti.size) (sz u) with
             | true => forceL (listU u y o ti.size) fun l => k (.c (.agg l)) ⟨[c],[],[]⟩
             | false => False
           | false => match Nat.blt o (sz u) with
             | true => forceD (cellU u y o) fun x => k (.c (.one (.d x))) ⟨[c],[],[]⟩
             | false => False
         | false => False
       | _ => False
     | _ => False
   | none => False
 | .store T x v => match tt.find T with
   | some ti => match opv K x with
     | .c (.one (.ptr c o)) => match lookB B c with
       | some (.cells l) => match cellsV (opv K v) with
         | some cs => match Nat.beq cs.length ti.size,Nat.ble (o + cs.length) l.length with
           | true,true => forceL (spl l o cs) fun l => k .undef ⟨[c],[],[(c,some (.cells l))]⟩
           | _,_ => False
         | none => False
       | _ => False
     | .c (.one (.rp c s i o)) => match lookB B c with
       | some (.row e u xs) => match Nat.beq (sz u) 1,Nat.beq s 1,Nat.beq o 0,Nat.beq ti.size 1,opv K v with
         | true,true,true,true,.c (.one sv) => match decU u [sv] with
           | some (y,[],p) => (PropO p ∧ i < xs.length) ∧ k .undef ⟨[c],[],[(c,some (.row e u (xs.set i y)))]⟩
           | _ => False
         | _,_,_,_,_ => False
       | _ => False
     | _ => False
   | none => False
 | .alloc T => match tt.find T,o.dst with
   | some ti,some d => freshB ids K B d = true ∧ k (.c (.one (.ptr d 0))) ⟨[],[d],[(d,some (.cells ti.zero))]⟩
   | _,_ => False
 | .box T x => match tt.find T,o.dst,cellsV (opv K x) with
   | some ti,some d,some l => match Nat.beq l.length ti.size with
     | true => freshB ids K B d = true ∧ k (.c (.one (.ptr d 0))) ⟨[],[d],[(d,some (.cells l))]⟩
     | false => False
   | _,_,_ => False
 | .build T ps => match tt.find T with
   | some ti => match ti.kd,fillP K (fun f => ti.offs[f]?) ps.toList ti.zero with
     | .st,some l => forceL l fun l => k (.c (.agg l)) e0
     | _,_ => False
   | none => False
 | .buildSlice T 0 ps => match ps.toList with
   | [] => match elemOf tt T,o.dst with
     | some (e,te),some d => match te.u with
       | some u => freshB ids K B d = true ∧ k (.c (.one (.own d))) ⟨[],[d],[(d,some (.row e u []))]⟩
       | none => False
     | _,_ => False
   | _ => False
 | .buildSlice T n ps => match elemOf tt T with
   | some (_,te) => match te.u with
     | some u => match Nat.ble (n * te.size) 1000,fillP K (fun i => some (i * te.size,te.size)) ps.toList (repL n te.zero) with
       | true,some l => match decs u n l with
         | some (xs,none) => k (.c (.one (.d (.lst u xs)))) e0
         | some (xs,some p) => p ∧ k (.c (.one (.d (.lst u xs)))) e0
         | none => n = 1 ∧ ∃ y : El u,(WfU u y ∧ l = listU u y 0 (sz u)) ∧ k (.c (.one (.d (.lst u [y])))) e0
       | _,_ => False
     | none => False
   | none => False
 | .indexAddr T x i => match elemOf tt T,opv K i with
   | some (_,te),.c (.one (.d (.int .i64 n))) => match opv K x with
     | .c (.one (.d (.lst u xs))) => match Nat.beq te.size (sz u) with
       | true => 0 ≤ n ∧ ∃ y,lget xs n.toNat = some y ∧ k (.c (.one (.el u y 0))) e0
       | false => False
     | .c (.one (.own c)) => match lookB B c with
       | some (.row _ u xs) => match Nat.beq te.size (sz u) with
         | true => (0 ≤ n ∧ n < xs.length) ∧ k (.c (.one (.rp c (sz u) n.toNat 0))) ⟨[c],[],[]⟩
         | false => False
       | _ => False
     | _ => False
   | _,_ => False
 | .index T x i => match isStr tt T,opv K x,opv K i with
   | true,.c (.one (.d (.str s))),.c (.one (.d (.int .i64 n))) => 0 ≤ n ∧ ∃ y,lget s n.toNat = some y ∧ k (.c (.one (.d (.int .u8 (UInt8.toNat y : Int))))) e0
   | _,_,_ => False
 | .slice T x lo hi none => match opv K x with
   | .c (.one (.own c)) => match elemOf tt T,lookB B c with
     | some (_,te),some (.row _ u xs) => match bnds xs.length (lo.map (opv K)) (hi.map (opv K)),Nat.beq te.size (sz u) with
       | some (l,h,p),true => p ∧ k (.c (.one (.os c (sz u) l (h - l)))) ⟨[c],[],[]⟩
       | _,_ => False
     | _,_ => False
   | .c (.one (.ptr c o)) => match lo,hi,Nat.beq o 0 with
     | none,none,true => vcSliceArr tt T c B k
     | _,_,_ => False
   | _ => vcSlice tt T (opv K x) (lo.map (opv K)) (hi.map (opv K)) k
 | .sliceToArrayPointer T x => vcToArr tt T (opv K x) k
 | .convert S T x => vcConv tt S T (opv K x) B k
 | .lookup T x i ok => vcLookup tt T (opv K x) (opv K i) ok B k
 | .mapUpdate T x i v => vcUpdate tt T (opv K x) (opv K i) (opv K v) B k
 | .makeMap T none => vcMake tt T o.dst ids K B k
 | .makeFunc (.func f) fs cs => match fs.toList,capOf (cs.toList.map (opv K)) with
   | [],some l => k (.c (.one (.clo f l))) e0
   | _,_ => False
 | .makeSlice T x y => match elemOf tt T,opv K x,opv K y,o.dst with
   | some (e,te),.c (.one (.d (.int .i64 n))),.c (.one (.d (.int .i64 m))),some d => match isU8 tt e with
     | true => (n = m ∧ 0 ≤ n ∧ n ≤ 4294967296) ∧ freshB ids K B d = true ∧ k (.c (.one (.own d))) ⟨[],[d],[(d,some (.row e .u8 (List.replicate n.toNat (0 : UInt8))))]⟩
     | false => False
   | _,_,_,_ => False
 | .call c => match c.callee,c.args.toList with
   | .value (.func f),xs => vcCall P f (xs.map (opv K)) ids K B k
   | .value (.tmp t),xs => match look K t with
     | .c (.one (.clo f l)) => vcCall P f (xs.map (opv K) ++ capV l) ids K B k
     | .c (.one (.d (.fn x))) => vcCall P x.1 (xs.map (opv K) ++ adrV x.2) ids K B k
     | _ => False
   | .builtin .len,[x] => match c.argTypes.toList with
     | [T] => match lenV tt T B (opv K x) with
       | some (n,rc) => k (.c (.one (.d (.int .i64 (n : Int))))) ⟨rc,[],[]⟩
       | none => False
     | _ => False
   | .builtin .delete,[x,y] => match c.argTypes.toList with
     | [T,_] => vcDelete tt T (opv K x) (opv K y) B k
     | _ => False
   | .builtin .min,[x,y] => match opv K x,opv K y with
     | .c (.one (.d (.int .i64 a))),.c (.one (.d (.int .i64 b))) => k (.c (.one (.d (.int .i64 (min a b))))) e0
     | _,_ => False
   | .builtin .max,[x,y] => match opv K x,opv K y with
     | .c (.one (.d (.int .i64 a))),.c (.one (.d (.int .i64 b))) => k (.c (.one (.d (.int .i64 (max a b))))) e0
     | _,_ => False
   | .builtin .copy,[x,y] => match c.argTypes.toList with
     | [T,T'] => vcCopy tt T (opv K x) (opv K y) B k
     | _ => False
   | .builtin .append,[x,y] => match c.argTypes.toList with
     | [T,T'] => match Nat.beq T T' with
       | true => vcApp tt T (opv K x) (opv K y) o.dst ids K B k
       | false => vcAppS tt T T' (opv K x) (opv K y) o.dst ids K B k
     | _ => False
   | _,_ => vcAny P ids o K B k
 | _ => vcAny P ids o K B k
/-- Is it a map that is part of an object? -/
def objM (K : KL) (B : BL) (x : Operand) : Bool := match opv K x with
 | .c (.one (.mp c)) => match lookB B c with
   | some (.obj _) => true
   | _ => false
 | _ => false
/-- A pointer to a block,by its number in the heap. -/
def isAdr : SV → Bool
 | .c (.one (.d (.adr _))) => true
 | .c (.one (.raw _)) => true
 | _ => false
/-- A pointer into a block that holds one value. -/
def valP (K : KL) (B : BL) (x : Operand) : Bool := match opv K x with
 | .c (.one (.ptr c _)) => match lookB B c with
   | some (.val _ _) => true
   | _ => false
 | .c (.one (.rp c _ _ _)) => match lookB B c with
   | some (.val _ _) => true
   | _ => false
 | _ => false
/-- A pointer into a row of things of several cells. -/
def rowP (K : KL) (B : BL) (x : Operand) : Bool := match opv K x with
 | .c (.one (.rp c _ _ _)) => match lookB B c with
   | some (.row _ u _) => !Nat.beq (sz u) 1
   | _ => false
 | _ => false
/-- Several cells. -/
def isAggV : SV → Bool
 | .c (.agg _) => true
 | .c (.dat _ _) => true
 | _ => false
/-- Calls of f are read-only here (told by a slot that is none). -/
def roK (K : KL) (f : Nat) : Bool := match look K (1000000 + f) with
 | .undef => true
 | _ => false
/-- Operations of which nothing is said here: whoever meets them says what they do. -/
def hook (tt : Tr) (o : Oper) (K : KL) (B : BL) : Bool := match o.op with
 | .lookup _ x _ _ => objM K B x
 | .mapUpdate _ x _ _ => objM K B x
 | .indexAddr _ x _ => match opv K x with
   | .c (.one (.ptr _ _)) => true
   | _ => false
 | .nilCheck x => isAdr (opv K x)
 | .fieldAddr _ x _ => isAdr (opv K x)
 | .load _ x => isAdr (opv K x) || valP K B x
 | .store _ x _ => isAdr (opv K x) || valP K B x || rowP K B x
 | .binOp op _ x y _ => match op with
   | .and => true
   | _ => match y with
     | .const .nilFunc => true
     | _ => isAggV (opv K x) || (match o.dst with
       | some d => roK K (2000000 + d)
       | none => false)
 | .index _ x _ => isAggV (opv K x)
 | .makeSlice T _ _ => match elemOf tt T with
   | some (e,_) => !isU8 tt e
   | none => false
 | .build T _ => match tt.find T with
   | some ti => match ti.kd with
     | .arr _ _ => true
     | _ => false
   | none => false
 | .buildSlice _ _ _ => match o.dst with
   | some d => roK K (1000000 + d)
   | none => false
 | .call c => match c.callee,c.args.toList with
   | .builtin .delete,x :: _ => objM K B x
   | .builtin .len,x :: _ => objM K B x
   | .value (.func f),_ => roK K f
   | .value (.tmp t),_ => match look K t with
     | .c (.one (.raw _)) => true
     | _ => false
   | _,_ => false
 | .makeFunc _ fs _ => match fs.toList with
   | [] => false
   | _ => true
 | _ => false
def vcOp (P : Program) (tt : Tr) (ids : List Nat) (o : Oper) (K : KL) (B : BL) (k : SV → Eff → Prop) : Prop := match hook tt o K B with
 | true => vcAny P ids o K B k
 | false => vcOp0 P tt ids o K B k
/-! ### regions and code -/
def gslot (all : List Oper) (j : Nat) : Option Nat := match all[j]? with
 | some o => o.dst
 | none => none
/-- Is the i-th operation a guard of one of these? -/
def isG (i : Nat) : List Oper → Bool
 | [] => false
 | o :: l => match o.guard with
   | some (j,_) => match Nat.beq j i with
     | true => true
     | false => isG i l
   | none => isG i l
def wants (all : List Oper) (K : KL) (g : Option (Nat × Bool)) : Option Bool := match g with
 | none => some true
 | some (j,want) => match gslot all j with
   | none => none
   | some s => match look K s,want with
     | .c (.one (.d (.lit true))),true => some true
     | .c (.one (.d (.lit true))),false => some false
     | .c (.one (.d (.lit false))),true => some false
     | .c (.one (.d (.lit false))),false => some true
     | .undef,_ => some false
     | _,_ => none
structure Ent where
 i : Nat
 v : SV
 e : Eff
/-- One operation; 'ih': what is to be shown of those behind it. (The recursions are written out as such: so a kernel and an elaborator unfold them alike.) -/
def vcsS (P : Program) (tt : Tr) (ids : List Nat) (all : List Oper) (o : Oper) (l : List Oper) (ih : Nat → KL → BL → List Ent → Prop) (i : Nat) (K : KL) (B : BL) (log : List Ent) : Prop :=
 match wants all K o.guard with
 | none => False
 | some false => match o.dst with
   | some d => ih (i + 1) ((d,.undef) :: K) B (⟨i,.undef,e0⟩ :: log)
   | none => ih (i + 1) K B (⟨i,.undef,e0⟩ :: log)
 | some true => vcOp P tt ids o K B fun v e => match o.dst with
   | none => ih (i + 1) K (applyB e.wc B) (⟨i,.undef,e⟩ :: log)
   | some d => match isG i l,v with
     | true,.c (.one (.d (.bool b))) =>
       (b = true → ih (i + 1) ((d,.c (.one (.d (.lit true)))) :: K) (applyB e.wc B) (⟨i,.c (.one (.d (.lit true))),e⟩ :: log)) ∧
       (b = false → ih (i + 1) ((d,.c (.one (.d (.lit false)))) :: K) (applyB e.wc B) (⟨i,.c (.one (.d (.lit false))),e⟩ :: log))
     | _,v => ih (i + 1) ((d,v) :: K) (applyB e.wc B) (⟨i,v,e⟩ :: log)
noncomputable def vcs (P : Program) (tt : Tr) (ids : List Nat) (all : List Oper) (i : Nat) (l : List Oper) (K : KL) (B : BL) (log : List Ent) (k : KL → BL → List Ent → Prop) : Prop :=
 List.rec (motive := fun _ => Nat → KL → BL → List Ent → Prop) (fun _ K B log => k K B log) (fun o l ih i K B log => vcsS P tt ids all o l ih i K B log) l i K B log
theorem vcs_cons {P : Program} {tt : Tr} {ids : List Nat} {all : List Oper} {i : Nat} {o : Oper} {l : List Oper} {K : KL} {B : BL} {log : List Ent} {k : KL → BL → List Ent → Prop} :
   vcs P tt ids all i (o :: l) K B log k = vcsS P tt ids all o l (fun i K B log => vcs P tt ids all i l K B log k) i K B log := rfl
/-- How a piece of code is left. -/
inductive Ex where
 | nrm
 | ex (id : Nat)
 | ret
def Ex.to : Ex → Exit
 | .nrm => .normal
 | .ex id => .exit id
 | .ret => .ret
/-- The fence that lets in whatever there is; r: the round's loop. -/
@[reducible] def wideR (r : Option Nat) : Fence := { fn := fun _ => True,depth := none,alive := false,round := r }
/-- .. with other marks. -/
@[reducible] def Ctx.at (C : Ctx) (ds : List Nat) : Ctx := { C with ds := ds }
/-- In a round (0 is of its numbers) no mark is laid. -/
def inRnd (ids : List Nat) : Bool := ids.contains 0
/-- What code does,told by states. -/
def TrQ (P : Program) (N : Nat) (ids : List Nat) (c : Code) (K : KL) (B : BL) (Q : Ex → KL → BL → Prop) : Prop :=
 ∀ r : Option Nat,(inRnd ids = false → r = none) → ∀ (C : Ctx) (Qs : Exit → Act → World → Prop),(∀ e K' B' ds,(inRnd ids = true → ds = C.ds) → Q e K' B' → ∀ a w,Sat N ids (C.at ds) K' B' a w → Qs e.to a w) → ∀ a w,Sat N ids C K B a w → c.wpIn (wideR r) 0 P Qs a w
/-! Operations that may come in another order than the text's must not touch what others touch. -/
def rdsOf (all : List Oper) (o : Oper) : List Nat := (o.op.operands.toList.filterMap fun
 | .tmp t => some t
 | _ => none) ++ (match o.guard with
 | some (j,_) => (gslot all j).toList
 | none => [])
def depsOf (o : Oper) : List Nat := (o.after.toList.filter fun e => Region.binds .any e).map (·.on)
/-- For each operation those that come ahead of it,whatever the order. -/
def ancs : List Oper → List (List Nat) → List (List Nat)
 | [],acc => acc
 | o :: l,acc => ancs l (acc ++ [depsOf o ++ (depsOf o).flatMap fun d => acc.getD d []])
def wIds (e : Eff) : List Nat := e.wc.map (·.1)
def meets (a b : List Nat) : Bool := a.any fun x => b.contains x
def chHas (c : Nat) : List (Nat × Option Ch) → Bool
 | [] => false
 | (d,none) :: l => Nat.beq d c || chHas c l
 | (d,some ch) :: l => Nat.beq d c || ch.has c || chHas c l
def named (n : Ent) (c : Nat) : Bool := n.v.has c || chHas c n.e.wc
/-- May the i-th and the later j-th come in either order? -/
def apart (all : List Oper) (o p : Oper) (n m : Ent) : Bool :=
 !meets o.dst.toList (rdsOf all p ++ p.dst.toList) && !meets p.dst.toList (rdsOf all o) && !meets (wIds n.e) (m.e.rc ++ wIds m.e) && !meets (wIds m.e) n.e.rc && !n.e.nw.any (named m) && !m.e.nw.any (named n)
def pairsOK (all : List Oper) (an : List (List Nat)) : List (Oper × Ent × Nat) → Bool
 | [] => true
 | (o,n,i) :: l => (l.all fun (p,m,j) => (an.getD j []).contains i && !m.e.nw.any (named n) || apart all o p n m) && pairsOK all an l
def indep (K : KL) (B : BL) (ops : List Oper) (log : List Ent) : Bool :=
 let es := log.reverse
 (ops.zipIdx.all fun (o,i) => (depsOf o).all fun d => Nat.blt d i) && (es.all fun n => n.e.nw.all fun c => noK c K && noB c B) && pairsOK ops (ancs ops []) ((ops.zip es).zipIdx.map fun ((o,n),i) => (o,n,i))
abbrev Post := Ex → KL → BL → Prop
noncomputable def vc (P : Program) (tt : Tr) (N : Nat) (ids : List Nat) (stops : List Nat) (c : Code) : KL → BL → Post → Prop :=
 Code.rec (motive := fun _ => KL → BL → Post → Prop)
   (fun K B Q => Q .nrm K B)
   (fun id ops draw K B Q => match stops.contains id with
     | true => TrQ P N ids (.region id ops draw) K B Q
     | false => match draw with
       | false => vcs P tt ids ops.toList 0 ops.toList K B [] fun K B _ => Q .nrm K B
       | true => vcs P tt ids ops.toList 0 ops.toList K B [] fun K' B' log => indep K B ops.toList log = true ∧ Q .nrm K' B')
   (fun _ _ va vb K B Q => va K B fun e K B => match e with
     | .nrm => vb K B Q
     | .ex i => Q (.ex i) K B
     | .ret => Q .ret K B)
   (fun c _ _ vx vy K B Q => match opv K c with
     | .c (.one (.d (.lit true))) => vx K B Q
     | .c (.one (.d (.lit false))) => vy K B Q
     | .c (.one (.d (.bool b))) => (b = true → vx K B Q) ∧ (b = false → vy K B Q)
     | _ => False)
   (fun i _ vb K B Q => vb K B fun e K B => match e with
     | .ex j => match Nat.beq j i with
       | true => Q .nrm K B
       | false => Q (.ex j) K B
     | .nrm => Q .nrm K B
     | .ret => Q .ret K B)
   (fun b _ K B Q => TrQ P N ids (.loop b) K B Q)
   (fun f ps x b _ _ K B Q => TrQ P N ids (.rangeFunc f ps x b) K B Q)
   (fun i K B Q => Q (.ex i) K B)
   (fun _ vb K B Q => vb K B Q)
   (fun _ K B Q => Q .nrm K B)
   (fun _ _ _ _ => False)
   (fun K B Q => Q .ret K B)
   (fun _ _ _ _ => False) c
section
variable {P : Program} {tt : Tr} {N : Nat} {ids stops : List Nat} {K : KL} {B : BL} {Q : Post}
theorem vc_region {id : Nat} {ops : Array Oper} {draw : Bool} : vc P tt N ids stops (.region id ops draw) K B Q = (match stops.contains id with
   | true => TrQ P N ids (.region id ops draw) K B Q
   | false => match draw with
     | false => vcs P tt ids ops.toList 0 ops.toList K B [] fun K B _ => Q .nrm K B
     | true => vcs P tt ids ops.toList 0 ops.toList K B [] fun K' B' log => indep K B ops.toList log = true ∧ Q .nrm K' B') := rfl
theorem vc_seq {a b : Code} : vc P tt N ids stops (.seq a b) K B Q = vc P tt N ids stops a K B fun e K B => match e with
   | .nrm => vc P tt N ids stops b K B Q
   | .ex i => Q (.ex i) K B
   | .ret => Q .ret K B := rfl
theorem vc_cond {c : Operand} {x y : Code} : vc P tt N ids stops (.cond c x y) K B Q = (match opv K c with
   | .c (.one (.d (.lit true))) => vc P tt N ids stops x K B Q
   | .c (.one (.d (.lit false))) => vc P tt N ids stops y K B Q
   | .c (.one (.d (.bool b))) => (b = true → vc P tt N ids stops x K B Q) ∧ (b = false → vc P tt N ids stops y K B Q)
   | _ => False) := rfl
theorem vc_block {i : Nat} {b : Code} : vc P tt N ids stops (.block i b) K B Q = vc P tt N ids stops b K B fun e K B => match e with
   | .ex j => match Nat.beq j i with
     | true => Q .nrm K B
     | false => Q (.ex j) K B
   | .nrm => Q .nrm K B
   | .ret => Q .ret K B := rfl
theorem vc_scope {b : Code} : vc P tt N ids stops (.scope b) K B Q = vc P tt N ids stops b K B Q := rfl
end
end Go.Proofs.YteoamepgonpdlaaGreat
