/-
Part 2 of the proof that stands in YteoamepgonpdlaaGreatPcRow, with what it needs from the parts ahead; the parts of this text: Vc.
-/
import Derived.Test.YteoamepgonpdlaaGreatPc1
set_option linter.unusedVariables false
set_option linter.unusedSimpArgs false
set_option maxRecDepth 10000
namespace Go.Proofs.YteoamepgonpdlaaGreat
open Go.RowKit
inductive KW where
 |int (k:IntKind)
 |bool
 |str
 |ptr (e:Nat)
 |sl (e:Nat)
 |st
 |arr (n e:Nat)
 |mp (k e:Nat)
 |other
structure cB where
 cL:KW
 size:Nat
 row:Bool
 zero:List bD
 mM:List (Nat×Nat)
 u:Option U
 bytes:Nat
inductive cY where
 |leaf
 |node (l:cY) (k:Nat) (x:cB) (r:cY)
def cY.find:cY→Nat→Option cB
 | .leaf,_=>none
 | .node l k x r,n=>match Nat.blt n k with
  |true=>l.find n
  |false=>match Nat.beq n k with
   |true=>some x
   |false=>r.find n
def yM (x:D) (k:D→Prop):Prop:=match x with
 | .int i n=>k (.int i n)
 | .lit true=>k (.lit true)
 | .lit false=>k (.lit false)
 | .bool b=>k (.bool b)
 | .str s=>k (.str s)
 | .aY x=>k (.aY x)
 | .c9 x=>k (.c9 x)
 | .fn x=>k (.fn x)
 | .cT u xs=>k (.cT u xs)
def yN (s:bD) (k:bD→Prop):Prop:=match s with
 | .d x=>yM x fun x=>k (.d x)
 | .ptr c o=>k (.ptr c o)
 | .own c=>k (.own c)
 | .el u x o=>k (.el u x o)
 | .fk c s i o=>k (.fk c s i o)
 | .os c s o n=>k (.os c s o n)
 | .mp c=>k (.mp c)
 | .eM f l=>k (.eM f l)
 | .ec=>k .ec
 | .raw v=>k (.raw v)
 | .any=>k .any
def pG (l:List bD) (k:List bD→Prop):Prop:=match l with
 | []=>k []
 |s::l=>yN s fun s=>pG l fun l=>k (s::l)
def w6 (x:dL) (k:dL→Prop):Prop:=match x with
 | .one s=>yN s fun s=>k (.one s)
 | .agg l=>pG l fun l=>k (.agg l)
 | .jM u x=>k (.jM u x)
def CT (l:List dL) (k:List dL→Prop):Prop:=match l with
 | []=>k []
 |s::l=>w6 s fun s=>CT l fun l=>k (s::l)
def oO (x:aO) (k:aO→Prop):Prop:=match x with
 | .c x=>w6 x fun x=>k (.c x)
 | .c6 l=>CT l fun l=>k (.c6 l)
 | .undef=>k .undef
theorem FL (x:D) (k:D→Prop):yM x k=k x:=by
 cases x with
 |lit b=>cases b <;>rfl
 |_=>rfl
theorem FM (x:bD) (k:bD→Prop):yN x k=k x:=by
 cases x with
 |d x=>simp only[yN,FL]
 |_=>rfl
theorem yO (l:List bD) (k:List bD→Prop):pG l k=k l:=by
 induction l generalizing k with
 |nil=>rfl
 |cons s l aZ=>simp only[pG,FM,aZ]
theorem CU (x:dL) (k:dL→Prop):w6 x k=k x:=by
 cases x with
 |one x=>simp only[w6,FM]
 |agg l=>simp only[w6,yO]
 |jM u x=>rfl
theorem Ru (l:List dL) (k:List dL→Prop):CT l k=k l:=by
 induction l generalizing k with
 |nil=>rfl
 |cons s l aZ=>simp only[CT,CU,aZ]
theorem uu (x:aO) (k:aO→Prop):oO x k=k x:=by
 cases x with
 |c x=>simp only[oO,CU]
 |c6 l=>simp only[oO,Ru]
 |undef=>rfl
structure fA where
 rc:List Nat
 bA:List Nat
 wc:List (Nat×Option bw)
abbrev bx:fA:=⟨[],[],[]⟩
def fe:List (Nat×Option bw)→aG→aG
 | [],B=>B
 |(c,none)::l,B=>fe l (ia B c)
 |(c,some ch)::l,B=>fe l ((c,ch)::B)
def uv (c:Nat):aQ→Bool
 | []=>true
 |(_,v)::K=> !v.has c&&uv c K
def nk (c:Nat):aG→Bool
 | []=>true
 |(d,ch)::B=> !Nat.beq d c&& !ch.has c&&nk c B
def gz (ids:List Nat) (K:aQ) (B:aG) (c:Nat):Bool:=uv c K&&nk c B&& !ids.contains c
@[reducible] def v1 (s:bD):aO:=.c (.one s)
@[reducible] def aC (n:Int):aO:=.c (.one (.d (.int .i64 n)))
@[reducible] def iw (b:Bool):aO:=.c (.one (.d (.bool b)))
@[reducible] def w8 (b:Bool):aO:=.c (.one (.d (.lit b)))
@[reducible] def bG (s:List UInt8):aO:=.c (.one (.d (.str s)))
@[reducible] def cI (u:U) (xs:List (aI u)):aO:=.c (.one (.d (.cT u xs)))
@[reducible] def aH (c:Nat):aO:=.c (.one (.ptr c 0))
@[reducible] def iO (c:Nat):aO:=.c (.one (.own c))
def bD.ok:bD→Bool
 | .any=>false
 | .raw (.agg _)=>false
 | .raw (.tuple _)=>false
 |_=>true
def CV:List bD→Bool
 | []=>true
 |s::l=>s.ok&&CV l
def vL:aO→Option (List bD)
 | .c (.one s)=>match s.ok with
  |true=>some [s]
  |false=>none
 | .c (.agg l)=>match CV l with
  |true=>some l
  |false=>none
 |_=>none
def AJ (l:List bD) (o:Nat) (cs:List bD):List bD:=l.take o++cs++l.drop (o+cs.length)
def vM (K:aQ) (mM:Nat→Option (Nat×Nat)):List (Nat×Operand)→List bD→Option (List bD)
 | [],l=>some l
 |(i,x)::ps,l=>match mM i,vL (aU K x) with
  |some (o,n),some cs=>match Nat.beq cs.length n,Nat.ble (o+n) l.length with
   |true,true=>vM K mM ps (AJ l o cs)
   |_,_=>none
  |_,_=>none
def q3:(u v:U)→Option (PLift (u=v))
 | .int .i64,.int .i64=>some ⟨rfl⟩
 | .int .u8,.int .u8=>some ⟨rfl⟩
 | .int .u16,.int .u16=>some ⟨rfl⟩
 | .int .u32,.int .u32=>some ⟨rfl⟩
 | .int .u64,.int .u64=>some ⟨rfl⟩
 | .int .i32,.int .i32=>some ⟨rfl⟩
 | .u8,.u8=>some ⟨rfl⟩
 | .bool,.bool=>some ⟨rfl⟩
 | .str,.str=>some ⟨rfl⟩
 | .aY,.aY=>some ⟨rfl⟩
 | .c9,.c9=>some ⟨rfl⟩
 | .fn,.fn=>some ⟨rfl⟩
 | .sl u,.sl v=>match q3 u v with
  |some ⟨h⟩=>some ⟨congrArg U.sl h⟩
  |none=>none
 | .pr u sZ,.pr v v'=>match q3 u v,q3 sZ v' with
  |some ⟨h⟩,some ⟨h'⟩=>some ⟨h▸h'▸rfl⟩
  |_,_=>none
 | .arr n u,.arr m v=>match q3 u v with
  |some ⟨h⟩=>if hn:n=m then some ⟨hn▸h▸rfl⟩ else none
  |none=>none
 |_,_=>none
def l9:IntKind→IntKind→Bool
 | .i64,.i64=>true
 | .u8,.u8=>true
 | .u16,.u16=>true
 | .u32,.u32=>true
 | .u64,.u64=>true
 | .i32,.i32=>true
 | .i16,.i16=>true
 | .i8,.i8=>true
 |_,_=>false
def nR {u v:U} (h:u=v) (xs:List (aI u)):List (aI v):=match v,h with
 |_,rfl=>xs
def FN {u v:U} (h:u=v) (x:aI u):aI v:=match v,h with
 |_,rfl=>x
def FO (x y:D):Prop:=match x,y with
 | .int k a,.int k' b=>match l9 k k' with
  |true=>a=b
  |false=>False
 | .str a,.str b=>a=b
 | .aY a,.aY b=>a=b
 | .c9 a,.c9 b=>a=b
 | .fn a,.fn b=>a=b
 | .bool a,.bool b=>a=b
 | .lit a,.lit b=>a=b
 | .lit a,.bool b=>a=b
 | .cT u xs,.cT v ys=>match q3 u v with
  |some ⟨h⟩=>nR h xs=ys
  |none=>False
 |_,_=>False
def CW (s t:bD):Prop:=match t,s with
 | .any,_=>True
 | .d y,.d x=>FO x y
 | .d (.cT u ys),.ec=>ys=[]
 |t,s=>s=t
def CX:List bD→List bD→Prop
 | [],[]=>True
 |s::l,t::m=>CW s t∧CX l m
 |_,_=>False
def CY (s t:dL):Prop:=match s,t with
 | .one s,.one t=>CW s t
 | .agg l,.agg m=>CX l m
 | .agg _,.one .any=>True
 | .jM u x,.jM v y=>match q3 u v with
  |some ⟨h⟩=>FN h x=y
  |none=>False
 | .jM _ _,.one .any=>True
 |_,_=>False
def FP:List dL→List dL→Prop
 | [],[]=>True
 |s::l,t::m=>CY s t∧FP l m
 |_,_=>False
def s4 (s t:aO):Prop:=match s,t with
 | .c s,.c t=>CY s t
 | .c6 l,.c6 m=>FP l m
 | .undef,.undef=>True
 |_,.c (.one .any)=>True
 |_,_=>False
def FQ:List aO→List aO→Prop
 | [],[]=>True
 |s::l,t::m=>s4 s t∧FQ l m
 |_,_=>False
def FR:Option Prop→Option Prop→Option Prop
 |none,q=>q
 |some p,none=>some p
 |some p,some q=>some (p∧q)
def uw:Option Prop→Prop
 |none=>True
 |some p=>p
def FT (k:IntKind):List bD→Option (Int×List bD×Option Prop)
 | .d (.int k' n)::l=>match l9 k' k with
  |true=>some (n,l,none)
  |false=>none
 |_=>none
def FU:List bD→Option (UInt8×List bD×Option Prop)
 | .d (.int k' n)::l=>match l9 k' .u8 with
  |true=>some (UInt8.ofNat n.toNat,l,some (0≤n∧n < 256))
  |false=>none
 |_=>none
def FV:List bD→Option (Bool×List bD×Option Prop)
 | .d (.lit b)::l=>some (b,l,none)
 | .d (.bool b)::l=>some (b,l,none)
 |_=>none
def FW:List bD→Option (List UInt8×List bD×Option Prop)
 | .d (.str s)::l=>some (s,l,none)
 |_=>none
def FX:List bD→Option (Option Nat×List bD×Option Prop)
 | .d (.aY x)::l=>some (x,l,none)
 | .raw (.pointer none)::l=>some (none,l,none)
 |_=>none
def FY:List bD→Option (Option (Nat×Nat×Nat)×List bD×Option Prop)
 | .d (.c9 x)::l=>some (x,l,none)
 | .ec::l=>some (none,l,none)
 |_=>none
def AK:List kH→Option (List Nat)
 | []=>some []
 | .d (.aY (some b))::l=>match AK l with
  |some r=>some (b::r)
  |none=>none
 |_=>none
def FZ:List bD→Option ((Nat×List Nat)×List bD×Option Prop)
 | .d (.fn x)::l=>some (x,l,none)
 | .eM f m::l=>match AK m with
  |some bs=>some ((f,bs),l,none)
  |none=>none
 |_=>none
def F0 (u:U):List bD→Option (List (aI u)×List bD×Option Prop)
 | .ec::l=>some ([],l,none)
 | .d (.cT v xs)::l=>match q3 v u with
  |some ⟨h⟩=>some (nR h xs,l,none)
  |none=>none
 |_=>none
def nS:(u:U)→List bD→Option (aI u×List bD×Option Prop)
 | .int k,l=>FT k l
 | .u8,l=>FU l
 | .bool,l=>FV l
 | .str,l=>FW l
 | .aY,l=>FX l
 | .c9,l=>FY l
 | .fn,l=>FZ l
 | .sl u,l=>F0 u l
 | .pr u v,l=>match nS u l with
  |some (x,l,p)=>match nS v l with
   |some (y,l,q)=>some ((x,y),l,FR p q)
   |none=>none
  |none=>none
 | .arr _ _,_=>none
def w9 (u:U):Nat→List bD→Option (List (aI u)×Option Prop)
 |0,[]=>some ([],none)
 |0,_=>none
 |n+1,l=>match nS u l with
  |some (x,l,p)=>match w9 u n l with
   |some (xs,q)=>some (x::xs,FR p q)
   |none=>none
  |none=>none
def CZ (n:Nat) (l:List bD):List bD:=match n with
 |0=>[]
 |n+1=>l++CZ n l
def fH (u:U) (x:aI u) (o:Nat):Nat→List bD
 |0=>[]
 |n+1=>.d (e4 u x o)::fH u x (o+1) n
def vN (k:IntKind) (n:Int):Prop:=match k with
 | .i64=> -9223372036854775808≤n∧n≤9223372036854775807
 | .u8=>0≤n∧n < 256
 | .u16=>0≤n∧n < 65536
 | .u32=>0≤n∧n < 4294967296
 | .u64=>0≤n∧n < 18446744073709551616
 | .i32=> -2147483648≤n∧n≤2147483647
 | .i16=> -32768≤n∧n≤32767
 | .i8=> -128≤n∧n≤127
def mN (P:Program) (f:FuncId):Bool:=match P.funcs[f]? with
 |some fn=> !(fn.name == "runtime.NumGoroutine" ||fn.body.isNone)
 |none=>false
def Fn (P:Program) (f:FuncId) (args:List aO) (aR:aG) (bA:List Nat) (res:aO) (bl:aG):Prop:=
 mN P f=true∧ ∀(ρ:Nat→bq) (F:Nat→Nat→Prop) (I:Nat→Prop) (w:World) (bW:List Value),
  (∀b,I b→b < w.heap.size)→(∀c ch,ax aR c=some ch→Holds ρ I (F c) w (ρ c) ch)→(∀c ch,ax aR c=some ch→ ∀b,F c b→b < w.heap.size∧ ¬I b)→
  (∀c bS ch ch' b,ax aR c=some ch→ax aR bS=some ch'→c≠bS→F c b→ ¬F bS b)→
  bW.length=args.length→(∀(i:Nat) (v:aO) (x:Value),args[i]? =some v→bW[i]? =some x→b8 ρ I w v x)→
  Calls P f bW.toArray w fun e w'=> ∃(x:Value) (ρ':Nat→bq) (F':Nat→Nat→Prop),e= .returned x∧Fr (fun b=> ∃c ch,ax aR c=some ch∧F c b) w w'∧(∀c,c∉bA→ρ' c=ρ c)∧
   ∃I':Nat→Prop,Ext I w I' w'∧(∀b,I' b→b < w'.heap.size∧(I b∨(∃c ch,ax aR c=some ch∧F c b)∨w.heap.size≤b))∧
   (∀c ch,ax bl c=some ch→Holds ρ' I' (F' c) w' (ρ' c) ch)∧
   (∀c ch,ax bl c=some ch→ ∀b,F' c b→b < w'.heap.size∧ ¬I' b∧((∃cx cm,ax aR cx=some cm∧F cx b)∨w.heap.size≤b))∧
   (∀c bS ch ch' b,ax bl c=some ch→ax bl bS=some ch'→c≠bS→F' c b→ ¬F' bS b)∧b8 ρ' I' w' res x
def nT (B:aG):aG→Prop
 | []=>True
 |(c,ch)::l=>ax B c=some ch∧nT B l
def cQ:aG→List Nat
 | []=>[]
 |(c,_)::l=>c::cQ l
def F1:aG→List (Nat×Option bw)
 | []=>[]
 |(c,ch)::l=>(c,some ch)::F1 l
def jO:aG→aG→List (Nat×Option bw)
 | [],m=>F1 m
 |(c,_)::l,m=>(c,none)::jO l m
def pH (aR:aG) (bA:List Nat):aG→Bool
 | []=>true
 |(c,_)::l=>((cQ aR).contains c||bA.contains c)&& !(cQ l).contains c&&pH aR bA l
def rW (ids:List Nat) (K:aQ) (B:aG):List Nat→Bool
 | []=>true
 |c::l=>gz ids K B c&& !l.contains c&&rW ids K B l
def xb (P:Program) (f:FuncId) (args:List aO) (ids:List Nat) (K:aQ) (B:aG) (k:aO→fA→Prop):Prop:=
 ∃aR bA res bl,Fn P f args aR bA res bl∧nT B aR∧(rW ids K B bA&&pH aR bA bl)=true∧oO res fun r=>k r ⟨cQ aR,bA,jO aR bl⟩
def nU (k:IntKind) (n:Int) (q:Prop):Prop:=match k with
 | .i64=>(-9223372036854775808≤n∧n≤9223372036854775807)∧q
 | .u8=>(0≤n∧n < 256)∧q
 | .u16=>(0≤n∧n < 65536)∧q
 | .u32=>(0≤n∧n < 4294967296)∧q
 | .u64=>(0≤n∧n < 18446744073709551616)∧q
 | .i32=>(-2147483648≤n∧n≤2147483647)∧q
 | .i16=>(-32768≤n∧n≤32767)∧q
 | .i8=>(-128≤n∧n≤127)∧q
theorem xd {k:IntKind} {n:Int} {q:Prop} (h:nU k n q):vN k n∧q:=by cases k <;>exact h
def xe:List aO→Option (List kH)
 | []=>some []
 | .c (.one (.ptr c o))::l=>match xe l with
  |some r=>some (.p c o::r)
  |none=>none
 | .c (.one (.d x))::l=>match xe l with
  |some r=>some (.d x::r)
  |none=>none
 |_=>none
def ux:List Nat→List aO
 | []=>[]
 |b::l=>.c (.one (.d (.aY (some b))))::ux l
def oP:List kH→List aO
 | []=>[]
 | .p c o::l=>.c (.one (.ptr c o))::oP l
 | .d x::l=>.c (.one (.d x))::oP l
def C0 (op:BinOp) (x y:aO) (k:aO→fA→Prop):Prop:=match x,y with
 | .c (.one (.d (.int i a))),.c (.one (.d (.int j b)))=>match l9 i j,op with
  |true,.add=>nU i (a+b) (k (.c (.one (.d (.int i (a+b))))) bx)
  |true,.sub=>nU i (a - b) (k (.c (.one (.d (.int i (a - b))))) bx)
  |true,.mul=>nU i (a*b) (k (.c (.one (.d (.int i (a*b))))) bx)
  |true,.quo=>(0≤a∧0 < b)∧nU i (a/b) (k (.c (.one (.d (.int i (a/b))))) bx)
  |true,.rem=>(0≤a∧0 < b)∧nU i (a % b) (k (.c (.one (.d (.int i (a % b))))) bx)
  |_,.shl=>match l9 i .i64 with
   |true=>(0≤a∧0≤b∧b≤64)∧nU i (a*(2 ^b.toNat:Nat)) (k (.c (.one (.d (.int i (a*(2 ^b.toNat:Nat)))))) bx)
   |false=>False
  |_,.shr=>match l9 i .i64 with
   |true=>(0≤a∧0≤b∧b≤64)∧k (.c (.one (.d (.int i (a/(2 ^b.toNat:Nat)))))) bx
   |false=>False
  |true,.or=>match l9 i .i64 with
   |true=>(0≤a∧a≤9223372036854775807∧0≤b∧b≤9223372036854775807)∧k (.c (.one (.d (.int i ((a.toNat ||| b.toNat:Nat):Int))))) bx
   |false=>False
  |true,.eql=>k (.c (.one (.d (.bool (decide (a=b)))))) bx
  |true,.neq=>k (.c (.one (.d (.bool (!decide (a=b)))))) bx
  |true,.lss=>k (.c (.one (.d (.bool (decide (a < b)))))) bx
  |true,.leq=>k (.c (.one (.d (.bool (decide (a≤b)))))) bx
  |true,.gtr=>k (.c (.one (.d (.bool (decide (b < a)))))) bx
  |true,.geq=>k (.c (.one (.d (.bool (decide (b≤a)))))) bx
  |_,_=>False
 | .c (.one (.d (.str a))),.c (.one (.d (.str b)))=>match op with
  | .add=>a.length+b.length≤4294967296∧k (.c (.one (.d (.str (a++b))))) bx
  | .eql=>k (.c (.one (.d (.bool (decide (a=b)))))) bx
  | .neq=>k (.c (.one (.d (.bool (!decide (a=b)))))) bx
  | .lss=>k (.c (.one (.d (.bool (Op.bytesLess a b))))) bx
  | .leq=>k (.c (.one (.d (.bool (Op.bytesLess a b||decide (a=b)))))) bx
  | .gtr=>k (.c (.one (.d (.bool (!(Op.bytesLess a b||decide (a=b))))))) bx
  | .geq=>k (.c (.one (.d (.bool (!Op.bytesLess a b))))) bx
  |_=>False
 | .c (.one (.ptr _ _)),.c (.one (.raw (.pointer none)))=>match op with
  | .eql=>k (.c (.one (.d (.lit false)))) bx
  | .neq=>k (.c (.one (.d (.lit true)))) bx
  |_=>False
 | .c (.one (.raw (.pointer none))),.c (.one (.raw (.pointer none)))=>match op with
  | .eql=>k (.c (.one (.d (.lit true)))) bx
  | .neq=>k (.c (.one (.d (.lit false)))) bx
  |_=>False
 |_,_=>False
def F2 (tt:cY) (T:Nat):Bool:=match tt.find T with
 |some ti=>match ti.cL with
  | .ptr _=>true
  |_=>false
 |none=>false
def yP (tt:cY) (T:Nat):Bool:=match tt.find T with
 |some ti=>match ti.cL with
  | .ptr e=>match tt.find e with
   |some _=>true
   |none=>false
  |_=>false
 |none=>false
def C1 (tt:cY) (T:Nat) (x:Option Nat) (y:aO) (k:Bool→Prop):Prop:=match y with
 | .c (.one (.raw (.pointer none)))=>(∀b,x=some b→k false)∧(x=none→k true)
 | .c (.one (.d (.aY y)))=>match yP tt T with
  |true=>x=y∧k true
  |false=>False
 |_=>False
def C2 (tt:cY) (T:Nat) (op:BinOp) (x y:aO) (k:aO→fA→Prop):Prop:=match x with
 | .c (.one (.d (.aY x)))=>match op with
  | .eql=>C1 tt T x y fun b=>k (.c (.one (.d (.lit b)))) bx
  | .neq=>C1 tt T x y fun b=>k (.c (.one (.d (.lit !b)))) bx
  |_=>False
 |x=>C0 op x y k
def isBool (tt:cY) (T:Nat):Bool:=match tt.find T with
 |some ti=>match ti.cL with
  | .bool=>true
  |_=>false
 |none=>false
def C3 (op:BinOp) (a:Bool) (y:aO) (k:aO→fA→Prop):Prop:=match op,y with
 | .eql,.c (.one (.d (.bool b)))=>k (.c (.one (.d (.bool (a == b))))) bx
 | .eql,.c (.one (.d (.lit b)))=>k (.c (.one (.d (.bool (a == b))))) bx
 | .neq,.c (.one (.d (.bool b)))=>k (.c (.one (.d (.bool (!(a == b)))))) bx
 | .neq,.c (.one (.d (.lit b)))=>k (.c (.one (.d (.bool (!(a == b)))))) bx
 |_,_=>False
def F3 (tt:cY) (T f:Nat):Option (Nat×Nat):=match tt.find T with
 |some ti=>match ti.cL with
  | .st=>ti.mM[f]?
  |_=>none
 |none=>none
def elemOf (tt:cY) (T:Nat):Option (Nat×cB):=match tt.find T with
 |some ti=>match ti.cL with
  | .sl e=>match tt.find e with
   |some te=>some (e,te)
   |none=>none
  |_=>none
 |none=>none
def isStr (tt:cY) (T:Nat):Bool:=match tt.find T with
 |some ti=>match ti.cL with
  | .str=>true
  |_=>false
 |none=>false
def xg (tt:cY) (T:Nat):Option (Nat×Nat):=match tt.find T with
 |some ti=>match ti.cL with
  | .mp k e=>some (k,e)
  |_=>none
 |none=>none
def F4 (tt:cY) (T:Nat) (B:aG) (x:aO):Option (Nat×List Nat):=match x with
 | .c (.one (.d (.str s)))=>match isStr tt T with
  |true=>some (s.length,[])
  |false=>none
 | .c (.one (.d (.cT _ xs)))=>match elemOf tt T with
  |some _=>some (xs.length,[])
  |none=>none
 | .c (.one .ec)=>match elemOf tt T with
  |some _=>some (0,[])
  |none=>none
 | .c (.one (.own c))=>match elemOf tt T with
  |some _=>match ax B c with
   |some (.row _ _ xs)=>some (xs.length,[c])
   |_=>none
  |none=>none
 | .c (.one (.mp c))=>match xg tt T with
  |some _=>match ax B c with
   |some (.map _ _ es)=>some (es.length,[c])
   |_=>none
  |none=>none
 |_=>none
def q4 (tt:cY) (e:Nat):Bool:=match tt.find e with
 |some te=>match te.cL,te.zero,te.size,te.bytes with
  | .int .u8,[.d (.int .u8 0)],1,1=>true
  |_,_,_,_=>false
 |none=>false
def F5 (tt:cY) (S T:Nat) (x:aO) (B:aG) (k:aO→fA→Prop):Prop:=match tt.find S,tt.find T with
 |some KX,some ti=>match KX.cL,ti.cL,x with
  | .int i,.int j,.c (.one (.d (.int _ n)))=>match l9 j .u8,l9 i .u8 with
   |true,false=>k (.c (.one (.d (.int j (n % 256))))) bx
   |_,_=>nU j n (k (.c (.one (.d (.int j n)))) bx)
  | .str,.sl e,.c (.one (.d (.str s)))=>match q4 tt e with
   |true=>s.length≤4294967296∧k (.c (.one (.d (.cT .u8 s)))) bx
   |false=>False
  | .sl e,.str,.c (.one (.d (.cT .u8 s)))=>match q4 tt e with
   |true=>k (.c (.one (.d (.str s)))) bx
   |false=>False
  | .sl e,.str,.c (.one .ec)=>match q4 tt e with
   |true=>k (.c (.one (.d (.str [])))) bx
   |false=>False
  | .sl e,.str,.c (.one (.own c))=>match ax B c,q4 tt e with
   |some (.row _ .u8 s),true=>k (.c (.one (.d (.str s)))) ⟨[c],[],[]⟩
   |_,_=>False
  |_,_,_=>False
 |_,_=>False
def yQ (n:Nat) (j8 aD:Option aO):Option (Nat×Nat×Prop):=match j8,aD with
 |none,some (.c (.one (.d (.int .i64 j))))=>some (0,j.toNat,0≤j∧j≤n)
 |some (.c (.one (.d (.int .i64 i)))),none=>some (i.toNat,n,0≤i∧i≤n)
 |some (.c (.one (.d (.int .i64 i)))),some (.c (.one (.d (.int .i64 j))))=>some (i.toNat,j.toNat,0≤i∧i≤j∧j≤n)
 |none,none=>some (0,n,True)
 |_,_=>none
def F6 (tt:cY) (T:Nat) (x:aO) (j8 aD:Option aO) (k:aO→fA→Prop):Prop:=match x with
 | .c (.one (.d (.str s)))=>match isStr tt T,yQ s.length j8 aD with
  |true,some (l,h,p)=>p∧k (.c (.one (.d (.str ((s.take h).drop l))))) bx
  |_,_=>False
 | .c (.one (.d (.cT u xs)))=>match elemOf tt T,yQ xs.length j8 aD with
  |some (_,te),some (l,h,p)=>match Nat.beq te.size (aM u) with
   |true=>p∧k (.c (.one (.d (.cT u ((xs.take h).drop l))))) bx
   |false=>False
  |_,_=>False
 |_=>False
def F7 (tt:cY) (T:Nat) (x y:aO) (dst:Option Nat) (ids:List Nat) (K:aQ) (B:aG) (k:aO→fA→Prop):Prop:=match elemOf tt T,dst with
 |some (e,te),some d=>match te.u,y with
  |some u,.c (.one (.d (.cT v ys)))=>match q3 v u with
   |some ⟨h⟩=>match x with
    | .c (.one .ec)=>ys.length≤4294967296∧gz ids K B d=true∧k (.c (.one (.own d))) ⟨[],[d],[(d,some (.row e u (nR h ys)))]⟩
    | .c (.one (.own c))=>match ax B c with
     |some (.row e' sZ xs)=>match Nat.beq e' e,q3 sZ u with
      |true,some ⟨h'⟩=>xs.length+ys.length≤4294967296∧gz ids K B d=true∧k (.c (.one (.own d))) ⟨[c],[d],[(c,none),(d,some (.row e u (nR h' xs++nR h ys)))]⟩
      |_,_=>False
     |_=>False
    |_=>False
   |none=>False
  |some u,.c (.one (.own aX))=>match x with
   | .c (.one (.own c))=>match ax B c,ax B aX with
    |some (.row e' sZ xs),some (.row ak v ys)=>match Nat.beq c aX,Nat.beq e' e,q3 v u,q3 sZ u with
     |false,true,some ⟨h⟩,some ⟨h'⟩=>xs.length+ys.length≤4294967296∧gz ids K B d=true∧k (.c (.one (.own d))) ⟨[c,aX],[d],[(c,none),(d,some (.row e u (nR h' xs++nR h ys)))]⟩
     |_,_,_,_=>False
    |_,_=>False
   |_=>False
  |_,_=>False
 |_,_=>False
def F8 (tt:cY) (T eN:Nat) (x y:aO) (dst:Option Nat) (ids:List Nat) (K:aQ) (B:aG) (k:aO→fA→Prop):Prop:=match elemOf tt T,isStr tt eN,dst with
 |some (e,te),true,some d=>match x,y with
  | .c (.one (.own c)),.c (.one (.d (.str s)))=>match q4 tt e,ax B c with
   |true,some (.row e' .u8 xs)=>match Nat.beq e' e with
    |true=>List.length (α:=UInt8) xs+s.length≤4294967296∧gz ids K B d=true∧k (.c (.one (.own d))) ⟨[c],[d],[(c,none),(d,some (.row e .u8 (List.append (α:=UInt8) xs s)))]⟩
    |false=>False
   |_,_=>False
  |_,_=>False
 |_,_,_=>False
def yR:(aN:U)→aO→Option (aI aN)
 | .int k,.c (.one (.d (.int k' n)))=>match l9 k' k with
  |true=>some n
  |false=>none
 | .str,.c (.one (.d (.str s)))=>some s
 |_,_=>none
def F9:(u:U)→aI u→dL
 | .pr u v,x=>.agg (fH (.pr u v) x 0 (aM (.pr u v)))
 | .arr n u,x=>.agg (fH (.arr n u) x 0 (aM (.arr n u)))
 | .int k,x=>.one (.d (e4 (.int k) x 0))
 | .u8,x=>.one (.d (e4 .u8 x 0))
 | .bool,x=>.one (.d (e4 .bool x 0))
 | .str,x=>.one (.d (e4 .str x 0))
 | .aY,x=>.one (.d (e4 .aY x 0))
 | .c9,x=>.one (.d (e4 .c9 x 0))
 | .fn,x=>.one (.d (e4 .fn x 0))
 | .sl u,x=>.one (.d (e4 (.sl u) x 0))
def C4:bD→D→Bool
 | .d (.int k n),.int k' m=>l9 k k'&&decide (n=m)
 | .d (.str []),.str []=>true
 | .raw (.pointer none),.aY none=>true
 | .ec,.c9 none=>true
 | .d (.lit b),.bool c=>b == c
 | .ec,.cT _ []=>true
 |_,_=>false
def iG:List bD→List bD→Bool
 | [],[]=>true
 |s::l,.d x::m=>C4 s x&&iG l m
 |_,_=>false
def xh (tt:cY) (kt:Nat) (aN:U):Bool:=match tt.find kt with
 |some ti=>match ti.cL,aN with
  | .int k,.int k'=>l9 k k'
  | .str,.str=>true
  |_,_=>false
 |none=>false
def C5 (tt:cY) (et:Nat) (aP:U):Bool:=match tt.find et with
 |some ti=>iG ti.zero (fH aP (dflt aP) 0 (aM aP))&&(ti.row == !ni aP)&&(ni aP||Nat.ble 2 (aM aP))
 |none=>false
def Ga (tt:cY) (T:Nat) (x i:aO) (ok:Bool) (B:aG) (k:aO→fA→Prop):Prop:=match x with
 | .c (.one (.mp c))=>match ax B c with
  |some (.map aN aP es)=>match xg tt T,yR aN i with
   |some (kt,et),some key=>match xh tt kt aN&&C5 tt et aP,ok with
    |true,true=>w6 (F9 aP ((ct es key).getD (dflt aP))) fun x=>k (.c6 [x,.one (.d (.bool (ct es key).isSome))]) ⟨[c],[],[]⟩
    |true,false=>w6 (F9 aP ((ct es key).getD (dflt aP))) fun x=>k (.c x) ⟨[c],[],[]⟩
    |false,_=>False
   |_,_=>False
  |_=>False
 |_=>False
def Gb (u:U) (x:aO):Option (aI u×Option Prop):=match x with
 | .c (.jM v y)=>match q3 v u,ni u with
  |some ⟨h⟩,false=>some (FN h y,none)
  |_,_=>none
 | .c (.one s)=>match ni u,nS u [s] with
  |true,some (y,[],p)=>some (y,p)
  |_,_=>none
 | .c (.agg l)=>match ni u,nS u l with
  |false,some (y,[],p)=>some (y,p)
  |_,_=>none
 |_=>none
def Gc (tt:cY) (T:Nat) (x i v:aO) (B:aG) (k:aO→fA→Prop):Prop:=match x with
 | .c (.one (.mp c))=>match ax B c with
  |some (.map aN aP es)=>match xg tt T,yR aN i with
   |some (kt,et),some key=>match xh tt kt aN,Gb aP v with
    |true,some (y,p)=>uw p∧k .undef ⟨[c],[],[(c,some (.map aN aP (fc es key y)))]⟩
    |true,none=>match v,ni aP with
     | .c (.agg l),false=> ∃y:aI aP,(nO aP y∧l=fH aP y 0 (aM aP))∧k .undef ⟨[c],[],[(c,some (.map aN aP (fc es key y)))]⟩
     |_,_=>False
    |false,_=>False
   |_,_=>False
  |_=>False
 |_=>False
def Gd (tt:cY) (T:Nat) (x i:aO) (B:aG) (k:aO→fA→Prop):Prop:=match x with
 | .c (.one (.mp c))=>match ax B c with
  |some (.map aN aP es)=>match xg tt T,yR aN i with
   |some (kt,et),some key=>match xh tt kt aN with
    |true=>k (.c6 []) ⟨[c],[],[(c,some (.map aN aP (iF es key)))]⟩
    |false=>False
   |_,_=>False
  |_=>False
 |_=>False
def Ge (tt:cY) (T:Nat) (dst:Option Nat) (ids:List Nat) (K:aQ) (B:aG) (k:aO→fA→Prop):Prop:=match xg tt T,dst with
 |some (kt,et),some d=>match tt.find kt,tt.find et with
  |some KY,some yS=>match KY.u,yS.u with
   |some aN,some aP=>gz ids K B d=true∧k (.c (.one (.mp d))) ⟨[],[d],[(d,some (.map aN aP []))]⟩
   |_,_=>False
  |_,_=>False
 |_,_=>False
def Gf (tt:cY) (T c:Nat) (B:aG) (k:aO→fA→Prop):Prop:=match tt.find T with
 |some ti=>match ti.cL,ti.u with
  | .arr n e,some (.arr m v)=>match Nat.beq n m&&Nat.ble n 1000000&&Nat.blt 0 n,tt.find e,ax B c with
   |true,some _,some (.cells l)=> ∃ys:List (aI v),(nO (.arr n v) ys∧l=fH (.arr n v) ys 0 (aM (.arr n v)))∧k (.c (.one (.d (.cT v ys)))) ⟨[c],[],[(c,none)]⟩
   |_,_,_=>False
  |_,_=>False
 |none=>False
def Gg (tt:cY) (T:Nat) (x:aO) (k:aO→fA→Prop):Prop:=match tt.find T,x with
 |some ti,.c (.one (.d (.cT v xs)))=>match ti.cL with
  | .arr n _=>(0 < n∧n≤List.length xs)∧k (.c (.one (.el (.arr n v) (List.take n xs) 0))) bx
  |_=>False
 |_,_=>False
def bH (P:Program) (N:Nat) (ids:List Nat) (o:Oper) (K:aQ) (B:aG) (v:aO) (e:fA):Prop:=
 ∀(K':aQ) (B':aG),(∀x,x∈o.op.operands→aU K' x=aU K x)→(∀c,c∈e.rc→ax B' c=ax B c)→(∀c,c∈e.bA→gz ids K' B' c=true)→
  ∀(C:Ctx) (a:Act) (w:World),Sat N ids C K' B' a w→(∀d,o.dst=some d→d < N)→ ∀(fl:Act→World→Prop) (Q:Exit→Act→World→Prop),
   (∀a' w',Sat N ids C (mL o.dst v K') (fe e.wc B') a' w'→fl a' w')→o.wp P a w fl Q
def laid (xs:List UInt8) (off n:Nat) (ys:List UInt8):List UInt8:=xs.take off++ys.take n++xs.drop (off+(ys.take n).length)
def C6 (c off n:Nat) (ys:List UInt8) (B:aG) (k:aO→fA→Prop):Prop:=match ax B c with
 |some (.row e .u8 xs)=>off+n≤xs.length∧k (.c (.one .any)) ⟨[c],[],[(c,some (.row e .u8 (laid xs off n ys)))]⟩
 |_=>False
def Gh (tt:cY) (T:Nat) (x y:aO) (B:aG) (k:aO→fA→Prop):Prop:=match elemOf tt T with
 |some (e,_)=>match q4 tt e,y with
  |true,.c (.one (.d (.cT .u8 ys)))=>match x with
   | .c (.one (.own c))=>match ax B c with
    |some (.row _ .u8 xs)=>C6 c 0 (List.length xs) ys B k
    |_=>False
   | .c (.one (.os c s off n))=>match Nat.beq s 1 with
    |true=>C6 c off n ys B k
    |false=>False
   |_=>False
  |_,_=>False
 |none=>False
def AL (P:Program) (ids:List Nat) (o:Oper) (K:aQ) (B:aG) (k:aO→fA→Prop):Prop:=
 ∃v e,(∀N,bH P N ids o K B v e)∧rW ids K B e.bA=true∧oO v fun v=>k v e
def Gi (P:Program) (tt:cY) (ids:List Nat) (o:Oper) (K:aQ) (B:aG) (k:aO→fA→Prop):Prop:=match o.op with
 | .move x=>oO (aU K x) fun v=>k v bx
 | .assign x=>oO (aU K x) fun v=>k v bx
 | .pick c x y=>match aU K c with
  | .c (.one (.d (.lit true)))=>oO (aU K x) fun v=>k v bx
  | .c (.one (.d (.lit false)))=>oO (aU K y) fun v=>k v bx
  |_=>False
 | .binOp op T x y _=>match op,F2 tt T with
  | .eql,true=>C2 tt T .eql (aU K x) (aU K y) k
  | .neq,true=>C2 tt T .neq (aU K x) (aU K y) k
  |op,false=>match aU K x with
   | .c (.one (.ptr _ _))=>False
   | .c (.one (.raw _))=>False
   | .c (.one (.d (.bool a)))=>match isBool tt T with
    |true=>C3 op a (aU K y) k
    |false=>False
   | .c (.one (.d (.lit a)))=>match isBool tt T with
    |true=>C3 op a (aU K y) k
    |false=>False
   |_=>C0 op (aU K x) (aU K y) k
  |_,_=>False
 | .unOp .not _ x=>match aU K x with
  | .c (.one (.d (.lit true)))=>k (.c (.one (.d (.lit false)))) bx
  | .c (.one (.d (.lit false)))=>k (.c (.one (.d (.lit true)))) bx
  | .c (.one (.d (.bool b)))=>k (.c (.one (.d (.bool (!b))))) bx
  |_=>False
 | .extract x i=>match aU K x with
  | .c6 l=>match l[i]? with
   |some v=>k (.c v) bx
   |none=>False
  |_=>False
 | .nilCheck x=>match aU K x with
  | .c (.one (.ptr c o))=>k (.c (.one (.ptr c o))) bx
  | .c (.one (.el u y o))=>k (.c (.one (.el u y o))) bx
  | .c (.one (.fk c s i o))=>k (.c (.one (.fk c s i o))) bx
  |_=>False
 | .fieldAddr T x f=>match F3 tt T f with
  |some (d,_)=>match aU K x with
   | .c (.one (.ptr c o))=>k (.c (.one (.ptr c (o+d)))) bx
   | .c (.one (.el u y o))=>k (.c (.one (.el u y (o+d)))) bx
   | .c (.one (.fk c s i o))=>k (.c (.one (.fk c s i (o+d)))) bx
   |_=>False
  |none=>False
 | .load T x=>match tt.find T with
  |some ti=>match aU K x with
   | .c (.one (.ptr c o))=>match ax B c with
    |some (.cells l)=>match ti.row with
     |true=>match Nat.ble (o+ti.size) l.length with
      |true=>pG ((l.drop o).take ti.size) fun l=>k (.c (.agg l)) ⟨[c],[],[]⟩
      |false=>False
     |false=>match l[o]? with
      |some s=>yN s fun s=>k (.c (.one s)) ⟨[c],[],[]⟩
      |none=>False
    |_=>False
   | .c (.one (.el u y o))=>match ti.row with
    |true=>match Nat.ble (o+ti.size) (aM u) with
     |true=>pG (fH u y o ti.size) fun l=>k (.c (.agg l)) bx
     |false=>False
    |false=>match Nat.blt o (aM u) with
     |true=>yM (e4 u y o) fun x=>k (.c (.one (.d x))) bx
     |false=>False
   | .c (.one (.fk c s i o))=>match ax B c with
    |some (.row _ u xs)=>match Nat.beq s (aM u) with
     |true=> ∃y,eT xs i=some y∧match ti.row with
      |true=>match Nat.ble (o+ti.size) (aM u) with
       |true=>pG (fH u y o ti.size) fun l=>k (.c (.agg l)) ⟨[c],[],[]⟩
       |false=>False
      |false=>match Nat.blt o (aM u) with
       |true=>yM (e4 u y o) fun x=>k (.c (.one (.d x))) ⟨[c],[],[]⟩
       |false=>False
     |false=>False
    |_=>False
   |_=>False
  |none=>False
 | .store T x v=>match tt.find T with
  |some ti=>match aU K x with
   | .c (.one (.ptr c o))=>match ax B c with
    |some (.cells l)=>match vL (aU K v) with
     |some cs=>match Nat.beq cs.length ti.size,Nat.ble (o+cs.length) l.length with
      |true,true=>pG (AJ l o cs) fun l=>k .undef ⟨[c],[],[(c,some (.cells l))]⟩
      |_,_=>False
     |none=>False
    |_=>False
   | .c (.one (.fk c s i o))=>match ax B c with
    |some (.row e u xs)=>match Nat.beq (aM u) 1,Nat.beq s 1,Nat.beq o 0,Nat.beq ti.size 1,aU K v with
     |true,true,true,true,.c (.one vO)=>match nS u [vO] with
      |some (y,[],p)=>(uw p∧i < xs.length)∧k .undef ⟨[c],[],[(c,some (.row e u (xs.set i y)))]⟩
      |_=>False
     |_,_,_,_,_=>False
    |_=>False
   |_=>False
  |none=>False
 | .alloc T=>match tt.find T,o.dst with
  |some ti,some d=>gz ids K B d=true∧k (.c (.one (.ptr d 0))) ⟨[],[d],[(d,some (.cells ti.zero))]⟩
  |_,_=>False
 | .box T x=>match tt.find T,o.dst,vL (aU K x) with
  |some ti,some d,some l=>match Nat.beq l.length ti.size with
   |true=>gz ids K B d=true∧k (.c (.one (.ptr d 0))) ⟨[],[d],[(d,some (.cells l))]⟩
   |false=>False
  |_,_,_=>False
 | .build T ps=>match tt.find T with
  |some ti=>match ti.cL,vM K (fun f=>ti.mM[f]?) ps.toList ti.zero with
   | .st,some l=>pG l fun l=>k (.c (.agg l)) bx
   |_,_=>False
  |none=>False
 | .buildSlice T 0 ps=>match ps.toList with
  | []=>match elemOf tt T,o.dst with
   |some (e,te),some d=>match te.u with
    |some u=>gz ids K B d=true∧k (.c (.one (.own d))) ⟨[],[d],[(d,some (.row e u []))]⟩
    |none=>False
   |_,_=>False
  |_=>False
 | .buildSlice T n ps=>match elemOf tt T with
  |some (_,te)=>match te.u with
   |some u=>match Nat.ble (n*te.size) 1000,vM K (fun i=>some (i*te.size,te.size)) ps.toList (CZ n te.zero) with
    |true,some l=>match w9 u n l with
     |some (xs,none)=>k (.c (.one (.d (.cT u xs)))) bx
     |some (xs,some p)=>p∧k (.c (.one (.d (.cT u xs)))) bx
     |none=>n=1∧ ∃y:aI u,(nO u y∧l=fH u y 0 (aM u))∧k (.c (.one (.d (.cT u [y])))) bx
    |_,_=>False
   |none=>False
  |none=>False
 | .indexAddr T x i=>match elemOf tt T,aU K i with
  |some (_,te),.c (.one (.d (.int .i64 n)))=>match aU K x with
   | .c (.one (.d (.cT u xs)))=>match Nat.beq te.size (aM u) with
    |true=>0≤n∧ ∃y,eT xs n.toNat=some y∧k (.c (.one (.el u y 0))) bx
    |false=>False
   | .c (.one (.own c))=>match ax B c with
    |some (.row _ u xs)=>match Nat.beq te.size (aM u) with
     |true=>(0≤n∧n < xs.length)∧k (.c (.one (.fk c (aM u) n.toNat 0))) ⟨[c],[],[]⟩
     |false=>False
    |_=>False
   |_=>False
  |_,_=>False
 | .index T x i=>match isStr tt T,aU K x,aU K i with
  |true,.c (.one (.d (.str s))),.c (.one (.d (.int .i64 n)))=>0≤n∧ ∃y,eT s n.toNat=some y∧k (.c (.one (.d (.int .u8 (UInt8.toNat y:Int))))) bx
  |_,_,_=>False
 | .slice T x j8 aD none=>match aU K x with
  | .c (.one (.own c))=>match elemOf tt T,ax B c with
   |some (_,te),some (.row _ u xs)=>match yQ xs.length (j8.map (aU K)) (aD.map (aU K)),Nat.beq te.size (aM u) with
    |some (l,h,p),true=>p∧k (.c (.one (.os c (aM u) l (h - l)))) ⟨[c],[],[]⟩
    |_,_=>False
   |_,_=>False
  | .c (.one (.ptr c o))=>match j8,aD,Nat.beq o 0 with
   |none,none,true=>Gf tt T c B k
   |_,_,_=>False
  |_=>F6 tt T (aU K x) (j8.map (aU K)) (aD.map (aU K)) k
 | .sliceToArrayPointer T x=>Gg tt T (aU K x) k
 | .convert S T x=>F5 tt S T (aU K x) B k
 | .lookup T x i ok=>Ga tt T (aU K x) (aU K i) ok B k
 | .mapUpdate T x i v=>Gc tt T (aU K x) (aU K i) (aU K v) B k
 | .makeMap T none=>Ge tt T o.dst ids K B k
 | .makeFunc (.func f) fs cs=>match fs.toList,xe (cs.toList.map (aU K)) with
  | [],some l=>k (.c (.one (.eM f l))) bx
  |_,_=>False
 | .makeSlice T x y=>match elemOf tt T,aU K x,aU K y,o.dst with
  |some (e,te),.c (.one (.d (.int .i64 n))),.c (.one (.d (.int .i64 m))),some d=>match q4 tt e with
   |true=>(n=m∧0≤n∧n≤4294967296)∧gz ids K B d=true∧k (.c (.one (.own d))) ⟨[],[d],[(d,some (.row e .u8 (List.replicate n.toNat (0:UInt8))))]⟩
   |false=>False
  |_,_,_,_=>False
 | .call c=>match c.callee,c.args.toList with
  | .value (.func f),xs=>xb P f (xs.map (aU K)) ids K B k
  | .value (.tmp t),xs=>match look K t with
   | .c (.one (.eM f l))=>xb P f (xs.map (aU K)++oP l) ids K B k
   | .c (.one (.d (.fn x)))=>xb P x.1 (xs.map (aU K)++ux x.2) ids K B k
   |_=>False
  | .builtin .len,[x]=>match c.argTypes.toList with
   | [T]=>match F4 tt T B (aU K x) with
    |some (n,rc)=>k (.c (.one (.d (.int .i64 (n:Int))))) ⟨rc,[],[]⟩
    |none=>False
   |_=>False
  | .builtin .delete,[x,y]=>match c.argTypes.toList with
   | [T,_]=>Gd tt T (aU K x) (aU K y) B k
   |_=>False
  | .builtin .min,[x,y]=>match aU K x,aU K y with
   | .c (.one (.d (.int .i64 a))),.c (.one (.d (.int .i64 b)))=>k (.c (.one (.d (.int .i64 (min a b))))) bx
   |_,_=>False
  | .builtin .max,[x,y]=>match aU K x,aU K y with
   | .c (.one (.d (.int .i64 a))),.c (.one (.d (.int .i64 b)))=>k (.c (.one (.d (.int .i64 (max a b))))) bx
   |_,_=>False
  | .builtin .copy,[x,y]=>match c.argTypes.toList with
   | [T,eN]=>Gh tt T (aU K x) (aU K y) B k
   |_=>False
  | .builtin .append,[x,y]=>match c.argTypes.toList with
   | [T,eN]=>match Nat.beq T eN with
    |true=>F7 tt T (aU K x) (aU K y) o.dst ids K B k
    |false=>F8 tt T eN (aU K x) (aU K y) o.dst ids K B k
   |_=>False
  |_,_=>AL P ids o K B k
 |_=>AL P ids o K B k
def C7 (K:aQ) (B:aG) (x:Operand):Bool:=match aU K x with
 | .c (.one (.mp c))=>match ax B c with
  |some (.obj _)=>true
  |_=>false
 |_=>false
def C8:aO→Bool
 | .c (.one (.d (.aY _)))=>true
 | .c (.one (.raw _))=>true
 |_=>false
def KZ (K:aQ) (B:aG) (x:Operand):Bool:=match aU K x with
 | .c (.one (.ptr c _))=>match ax B c with
  |some (.val _ _)=>true
  |_=>false
 | .c (.one (.fk c _ _ _))=>match ax B c with
  |some (.val _ _)=>true
  |_=>false
 |_=>false
def Rv (K:aQ) (B:aG) (x:Operand):Bool:=match aU K x with
 | .c (.one (.fk c _ _ _))=>match ax B c with
  |some (.row _ u _)=> !Nat.beq (aM u) 1
  |_=>false
 |_=>false
def K0:aO→Bool
 | .c (.agg _)=>true
 | .c (.jM _ _)=>true
 |_=>false
def Gj (K:aQ) (f:Nat):Bool:=match look K (1000000+f) with
 | .undef=>true
 |_=>false
def Rw (tt:cY) (o:Oper) (K:aQ) (B:aG):Bool:=match o.op with
 | .lookup _ x _ _=>C7 K B x
 | .mapUpdate _ x _ _=>C7 K B x
 | .indexAddr _ x _=>match aU K x with
  | .c (.one (.ptr _ _))=>true
  |_=>false
 | .nilCheck x=>C8 (aU K x)
 | .fieldAddr _ x _=>C8 (aU K x)
 | .load _ x=>C8 (aU K x)||KZ K B x
 | .store _ x _=>C8 (aU K x)||KZ K B x||Rv K B x
 | .binOp op _ x y _=>match op with
  | .and=>true
  |_=>match y with
   | .const .nilFunc=>true
   |_=>K0 (aU K x)||(match o.dst with
    |some d=>Gj K (2000000+d)
    |none=>false)
 | .index _ x _=>K0 (aU K x)
 | .makeSlice T _ _=>match elemOf tt T with
  |some (e,_)=> !q4 tt e
  |none=>false
 | .build T _=>match tt.find T with
  |some ti=>match ti.cL with
   | .arr _ _=>true
   |_=>false
  |none=>false
 | .buildSlice _ _ _=>match o.dst with
  |some d=>Gj K (1000000+d)
  |none=>false
 | .call c=>match c.callee,c.args.toList with
  | .builtin .delete,x::_=>C7 K B x
  | .builtin .len,x::_=>C7 K B x
  | .value (.func f),_=>Gj K f
  | .value (.tmp t),_=>match look K t with
   | .c (.one (.raw _))=>true
   |_=>false
  |_,_=>false
 | .makeFunc _ fs _=>match fs.toList with
  | []=>false
  |_=>true
 |_=>false
def yT (P:Program) (tt:cY) (ids:List Nat) (o:Oper) (K:aQ) (B:aG) (k:aO→fA→Prop):Prop:=match Rw tt o K B with
 |true=>AL P ids o K B k
 |false=>Gi P tt ids o K B k
def AM (all:List Oper) (j:Nat):Option Nat:=match all[j]? with
 |some o=>o.dst
 |none=>none
def AN (i:Nat):List Oper→Bool
 | []=>false
 |o::l=>match o.guard with
  |some (j,_)=>match Nat.beq j i with
   |true=>true
   |false=>AN i l
  |none=>AN i l
def wants (all:List Oper) (K:aQ) (g:Option (Nat×Bool)):Option Bool:=match g with
 |none=>some true
 |some (j,want)=>match AM all j with
  |none=>none
  |some s=>match look K s,want with
   | .c (.one (.d (.lit true))),true=>some true
   | .c (.one (.d (.lit true))),false=>some false
   | .c (.one (.d (.lit false))),true=>some false
   | .c (.one (.d (.lit false))),false=>some true
   | .undef,_=>some false
   |_,_=>none
structure kK where
 i:Nat
 v:aO
 e:fA
def C9 (P:Program) (tt:cY) (ids:List Nat) (all:List Oper) (o:Oper) (l:List Oper) (aZ:Nat→aQ→aG→List kK→Prop) (i:Nat) (K:aQ) (B:aG) (log:List kK):Prop:=
 match wants all K o.guard with
 |none=>False
 |some false=>match o.dst with
  |some d=>aZ (i+1) ((d,.undef)::K) B (⟨i,.undef,bx⟩::log)
  |none=>aZ (i+1) K B (⟨i,.undef,bx⟩::log)
 |some true=>yT P tt ids o K B fun v e=>match o.dst with
  |none=>aZ (i+1) K (fe e.wc B) (⟨i,.undef,e⟩::log)
  |some d=>match AN i l,v with
   |true,.c (.one (.d (.bool b)))=>
    (b=true→aZ (i+1) ((d,.c (.one (.d (.lit true))))::K) (fe e.wc B) (⟨i,.c (.one (.d (.lit true))),e⟩::log))∧
    (b=false→aZ (i+1) ((d,.c (.one (.d (.lit false))))::K) (fe e.wc B) (⟨i,.c (.one (.d (.lit false))),e⟩::log))
   |_,v=>aZ (i+1) ((d,v)::K) (fe e.wc B) (⟨i,v,e⟩::log)
noncomputable def vcs (P:Program) (tt:cY) (ids:List Nat) (all:List Oper) (i:Nat) (l:List Oper) (K:aQ) (B:aG) (log:List kK) (k:aQ→aG→List kK→Prop):Prop:=
 List.rec (motive:=fun _=>Nat→aQ→aG→List kK→Prop) (fun _ K B log=>k K B log) (fun o l aZ i K B log=>C9 P tt ids all o l aZ i K B log) l i K B log
theorem K1 {P:Program} {tt:cY} {ids:List Nat} {all:List Oper} {i:Nat} {o:Oper} {l:List Oper} {K:aQ} {B:aG} {log:List kK} {k:aQ→aG→List kK→Prop}:
 vcs P tt ids all i (o::l) K B log k=C9 P tt ids all o l (fun i K B log=>vcs P tt ids all i l K B log k) i K B log:=rfl
inductive oQ where
 |gp
 |ex (id:Nat)
 |ret
def oQ.to:oQ→Exit
 | .gp=>.normal
 | .ex id=>.exit id
 | .ret=>.ret
@[reducible] def nV (r:Option Nat):Fence:={fn:=fun _=>True,depth:=none,alive:=false,round:=r}
@[reducible] def Ctx.at (C:Ctx) (ds:List Nat):Ctx:={C with ds:=ds}
def uy (ids:List Nat):Bool:=ids.contains 0
def av (P:Program) (N:Nat) (ids:List Nat) (c:Code) (K:aQ) (B:aG) (Q:oQ→aQ→aG→Prop):Prop:=
 ∀r:Option Nat,(uy ids=false→r=none)→ ∀(C:Ctx) (gP:Exit→Act→World→Prop),(∀e K' B' ds,(uy ids=true→ds=C.ds)→Q e K' B'→ ∀a w,Sat N ids (C.at ds) K' B' a w→gP e.to a w)→ ∀a w,Sat N ids C K B a w→c.wpIn (nV r) 0 P gP a w
def C' (all:List Oper) (o:Oper):List Nat:=(o.op.operands.toList.filterMap fun
 | .tmp t=>some t
 |_=>none)++(match o.guard with
 |some (j,_)=>(AM all j).toList
 |none=>[])
def qm (o:Oper):List Nat:=(o.after.toList.filter fun e=>Region.binds .any e).map (·.on)
def yU:List Oper→List (List Nat)→List (List Nat)
 | [],acc=>acc
 |o::l,acc=>yU l (acc++[qm o++(qm o).flatMap fun d=>acc.getD d []])
def Da (e:fA):List Nat:=e.wc.map (·.1)
def meets (a b:List Nat):Bool:=a.any fun x=>b.contains x
def yV (c:Nat):List (Nat×Option bw)→Bool
 | []=>false
 |(d,none)::l=>Nat.beq d c||yV c l
 |(d,some ch)::l=>Nat.beq d c||ch.has c||yV c l
def named (n:kK) (c:Nat):Bool:=n.v.has c||yV c n.e.wc
def apart (all:List Oper) (o p:Oper) (n m:kK):Bool:=
 !meets o.dst.toList (C' all p++p.dst.toList)&& !meets p.dst.toList (C' all o)&& !meets (Da n.e) (m.e.rc++Da m.e)&& !meets (Da m.e) n.e.rc&& !n.e.bA.any (named m)&& !m.e.bA.any (named n)
def uz (all:List Oper) (an:List (List Nat)):List (Oper×kK×Nat)→Bool
 | []=>true
 |(o,n,i)::l=>(l.all fun(p,m,j)=>(an.getD j []).contains i&& !m.e.bA.any (named n)||apart all o p n m)&&uz all an l
def indep (K:aQ) (B:aG) (ops:List Oper) (log:List kK):Bool:=
 let es:=log.reverse
 (ops.zipIdx.all fun(o,i)=>(qm o).all fun d=>Nat.blt d i)&&(es.all fun n=>n.e.bA.all fun c=>uv c K&&nk c B)&&uz ops (yU ops []) ((ops.zip es).zipIdx.map fun((o,n),i)=>(o,n,i))
abbrev AO:=oQ→aQ→aG→Prop
noncomputable def vc (P:Program) (tt:cY) (N:Nat) (ids:List Nat) (stops:List Nat) (c:Code):aQ→aG→AO→Prop:=
 Code.rec (motive:=fun _=>aQ→aG→AO→Prop)
  (fun K B Q=>Q .gp K B)
  (fun id ops draw K B Q=>match stops.contains id with
   |true=>av P N ids (.region id ops draw) K B Q
   |false=>match draw with
    |false=>vcs P tt ids ops.toList 0 ops.toList K B [] fun K B _=>Q .gp K B
    |true=>vcs P tt ids ops.toList 0 ops.toList K B [] fun K' B' log=>indep K B ops.toList log=true∧Q .gp K' B')
  (fun _ _ va vb K B Q=>va K B fun e K B=>match e with
   | .gp=>vb K B Q
   | .ex i=>Q (.ex i) K B
   | .ret=>Q .ret K B)
  (fun c _ _ K2 K3 K B Q=>match aU K c with
   | .c (.one (.d (.lit true)))=>K2 K B Q
   | .c (.one (.d (.lit false)))=>K3 K B Q
   | .c (.one (.d (.bool b)))=>(b=true→K2 K B Q)∧(b=false→K3 K B Q)
   |_=>False)
  (fun i _ vb K B Q=>vb K B fun e K B=>match e with
   | .ex j=>match Nat.beq j i with
    |true=>Q .gp K B
    |false=>Q (.ex j) K B
   | .gp=>Q .gp K B
   | .ret=>Q .ret K B)
  (fun b _ K B Q=>av P N ids (.loop b) K B Q)
  (fun f ps x b _ _ K B Q=>av P N ids (.rangeFunc f ps x b) K B Q)
  (fun i K B Q=>Q (.ex i) K B)
  (fun _ vb K B Q=>vb K B Q)
  (fun _ K B Q=>Q .gp K B)
  (fun _ _ _ _=>False)
  (fun K B Q=>Q .ret K B)
  (fun _ _ _ _=>False) c
section
variable {P:Program} {tt:cY} {N:Nat} {ids stops:List Nat} {K:aQ} {B:aG} {Q:AO}
theorem Rx {id:Nat} {ops:Array Oper} {draw:Bool}:vc P tt N ids stops (.region id ops draw) K B Q=(match stops.contains id with
 |true=>av P N ids (.region id ops draw) K B Q
 |false=>match draw with
  |false=>vcs P tt ids ops.toList 0 ops.toList K B [] fun K B _=>Q .gp K B
  |true=>vcs P tt ids ops.toList 0 ops.toList K B [] fun K' B' log=>indep K B ops.toList log=true∧Q .gp K' B'):=rfl
theorem Ry {a b:Code}:vc P tt N ids stops (.seq a b) K B Q=vc P tt N ids stops a K B fun e K B=>match e with
 | .gp=>vc P tt N ids stops b K B Q
 | .ex i=>Q (.ex i) K B
 | .ret=>Q .ret K B:=rfl
theorem Rz {c:Operand} {x y:Code}:vc P tt N ids stops (.cond c x y) K B Q=(match aU K c with
 | .c (.one (.d (.lit true)))=>vc P tt N ids stops x K B Q
 | .c (.one (.d (.lit false)))=>vc P tt N ids stops y K B Q
 | .c (.one (.d (.bool b)))=>(b=true→vc P tt N ids stops x K B Q)∧(b=false→vc P tt N ids stops y K B Q)
 |_=>False):=rfl
theorem RA {i:Nat} {b:Code}:vc P tt N ids stops (.block i b) K B Q=vc P tt N ids stops b K B fun e K B=>match e with
 | .ex j=>match Nat.beq j i with
  |true=>Q .gp K B
  |false=>Q (.ex j) K B
 | .gp=>Q .gp K B
 | .ret=>Q .ret K B:=rfl
theorem RB {b:Code}:vc P tt N ids stops (.scope b) K B Q=vc P tt N ids stops b K B Q:=rfl
end
end Go.Proofs.YteoamepgonpdlaaGreat
