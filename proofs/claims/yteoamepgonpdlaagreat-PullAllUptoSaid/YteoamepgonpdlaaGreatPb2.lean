/-
Part 2 of the proof that stands in YteoamepgonpdlaaGreatPbRow, with what it needs from the parts ahead; the parts of this text: Vc.
-/
import Derived.Test.YteoamepgonpdlaaGreatPb1
namespace Go.Proofs.YteoamepgonpdlaaGreat
set_option linter.unusedVariables false
set_option linter.unusedSimpArgs false
open Go.RowKit
inductive J5 where
 |int (k:IntKind)
 |bool
 |str
 |ptr (e:Nat)
 |sl (e:Nat)
 |st
 |arr (n e:Nat)
 |mp (k e:Nat)
 |other
structure cD where
 eu:J5
 size:Nat
 row:Bool
 zero:List bx
 l5:List (Nat×Nat)
 u:Option U
 bytes:Nat
inductive c4 where
 |leaf
 |node (l:c4) (k:Nat) (x:cD) (r:c4)
def c4.find:c4→Nat→Option cD
 | .leaf,_=>none
 | .node l k x r,n=>match Nat.blt n k with
  |true=>l.find n
  |false=>match Nat.beq n k with
   |true=>some x
   |false=>r.find n
def yb (x:D) (k:D→Prop):Prop:=match x with
 | .int i n=>k (.int i n)
 | .lit true=>k (.lit true)
 | .lit false=>k (.lit false)
 | .bool b=>k (.bool b)
 | .str s=>k (.str s)
 | .aW x=>k (.aW x)
 | .dg x=>k (.dg x)
 | .fn x=>k (.fn x)
 | .cW u xs=>k (.cW u xs)
def yc (s:bx) (k:bx→Prop):Prop:=match s with
 | .d x=>yb x fun x=>k (.d x)
 | .ptr c o=>k (.ptr c o)
 | .own c=>k (.own c)
 | .el u x o=>k (.el u x o)
 | .fh c s i o=>k (.fh c s i o)
 | .os c s o n=>k (.os c s o n)
 | .mp c=>k (.mp c)
 | .eH f l=>k (.eH f l)
 | .ee=>k .ee
 | .raw v=>k (.raw v)
 | .any=>k .any
def oH (l:List bx) (k:List bx→Prop):Prop:=match l with
 | []=>k []
 |s::l=>yc s fun s=>oH l fun l=>k (s::l)
def wu (x:dG) (k:dG→Prop):Prop:=match x with
 | .one s=>yc s fun s=>k (.one s)
 | .agg l=>oH l fun l=>k (.agg l)
 | .jx u x=>k (.jx u x)
def Cm (l:List dG) (k:List dG→Prop):Prop:=match l with
 | []=>k []
 |s::l=>wu s fun s=>Cm l fun l=>k (s::l)
def og (x:aN) (k:aN→Prop):Prop:=match x with
 | .c x=>wu x fun x=>k (.c x)
 | .c8 l=>Cm l fun l=>k (.c8 l)
 | .undef=>k .undef
theorem E4 (x:D) (k:D→Prop):yb x k=k x:=by
 cases x with
 |lit b=>cases b <;>rfl
 |_=>rfl
theorem E5 (x:bx) (k:bx→Prop):yc x k=k x:=by
 cases x with
 |d x=>simp only[yc,E4]
 |_=>rfl
theorem yd (l:List bx) (k:List bx→Prop):oH l k=k l:=by
 induction l generalizing k with
 |nil=>rfl
 |cons s l aY=>simp only[oH,E5,aY]
theorem Cn (x:dG) (k:dG→Prop):wu x k=k x:=by
 cases x with
 |one x=>simp only[wu,E5]
 |agg l=>simp only[wu,yd]
 |jx u x=>rfl
theorem Qr (l:List dG) (k:List dG→Prop):Cm l k=k l:=by
 induction l generalizing k with
 |nil=>rfl
 |cons s l aY=>simp only[Cm,Cn,aY]
theorem tH (x:aN) (k:aN→Prop):og x k=k x:=by
 cases x with
 |c x=>simp only[og,Cn]
 |c8 l=>simp only[og,Qr]
 |undef=>rfl
structure fk where
 rc:List Nat
 bu:List Nat
 wc:List (Nat×Option bF)
abbrev bt:fk:=⟨[],[],[]⟩
def e5:List (Nat×Option bF)→aG→aG
 | [],B=>B
 |(c,none)::l,B=>e5 l (g8 B c)
 |(c,some ch)::l,B=>e5 l ((c,ch)::B)
def tI (c:Nat):aQ→Bool
 | []=>true
 |(_,v)::K=> !v.has c&&tI c K
def mS (c:Nat):aG→Bool
 | []=>true
 |(d,ch)::B=> !Nat.beq d c&& !ch.has c&&mS c B
def gu (ids:List Nat) (K:aQ) (B:aG) (c:Nat):Bool:=tI c K&&mS c B&& !ids.contains c
@[reducible] def v1 (s:bx):aN:=.c (.one s)
@[reducible] def aD (n:Int):aN:=.c (.one (.d (.int .i64 n)))
@[reducible] def g9 (b:Bool):aN:=.c (.one (.d (.bool b)))
@[reducible] def Co (b:Bool):aN:=.c (.one (.d (.lit b)))
@[reducible] def bN (s:List UInt8):aN:=.c (.one (.d (.str s)))
@[reducible] def cJ (u:U) (xs:List (aJ u)):aN:=.c (.one (.d (.cW u xs)))
@[reducible] def aI (c:Nat):aN:=.c (.one (.ptr c 0))
@[reducible] def iL (c:Nat):aN:=.c (.one (.own c))
def bx.ok:bx→Bool
 | .any=>false
 | .raw (.agg _)=>false
 | .raw (.tuple _)=>false
 |_=>true
def Cp:List bx→Bool
 | []=>true
 |s::l=>s.ok&&Cp l
def uQ:aN→Option (List bx)
 | .c (.one s)=>match s.ok with
  |true=>some [s]
  |false=>none
 | .c (.agg l)=>match Cp l with
  |true=>some l
  |false=>none
 |_=>none
def Ab (l:List bx) (o:Nat) (cs:List bx):List bx:=l.take o++cs++l.drop (o+cs.length)
def uR (K:aQ) (l5:Nat→Option (Nat×Nat)):List (Nat×Operand)→List bx→Option (List bx)
 | [],l=>some l
 |(i,x)::ps,l=>match l5 i,uQ (aU K x) with
  |some (o,n),some cs=>match Nat.beq cs.length n,Nat.ble (o+n) l.length with
   |true,true=>uR K l5 ps (Ab l o cs)
   |_,_=>none
  |_,_=>none
def qu:(u v:U)→Option (PLift (u=v))
 | .int .i64,.int .i64=>some ⟨rfl⟩
 | .int .u8,.int .u8=>some ⟨rfl⟩
 | .int .u16,.int .u16=>some ⟨rfl⟩
 | .int .u32,.int .u32=>some ⟨rfl⟩
 | .int .u64,.int .u64=>some ⟨rfl⟩
 | .int .i32,.int .i32=>some ⟨rfl⟩
 | .u8,.u8=>some ⟨rfl⟩
 | .bool,.bool=>some ⟨rfl⟩
 | .str,.str=>some ⟨rfl⟩
 | .aW,.aW=>some ⟨rfl⟩
 | .dg,.dg=>some ⟨rfl⟩
 | .fn,.fn=>some ⟨rfl⟩
 | .sl u,.sl v=>match qu u v with
  |some ⟨h⟩=>some ⟨congrArg U.sl h⟩
  |none=>none
 | .pr u sk,.pr v v'=>match qu u v,qu sk v' with
  |some ⟨h⟩,some ⟨h'⟩=>some ⟨h▸h'▸rfl⟩
  |_,_=>none
 | .arr n u,.arr m v=>match qu u v with
  |some ⟨h⟩=>if hn:n=m then some ⟨hn▸h▸rfl⟩ else none
  |none=>none
 |_,_=>none
def lC:IntKind→IntKind→Bool
 | .i64,.i64=>true
 | .u8,.u8=>true
 | .u16,.u16=>true
 | .u32,.u32=>true
 | .u64,.u64=>true
 | .i32,.i32=>true
 | .i16,.i16=>true
 | .i8,.i8=>true
 |_,_=>false
def nx {u v:U} (h:u=v) (xs:List (aJ u)):List (aJ v):=match v,h with
 |_,rfl=>xs
def E6 {u v:U} (h:u=v) (x:aJ u):aJ v:=match v,h with
 |_,rfl=>x
def E7 (x y:D):Prop:=match x,y with
 | .int k a,.int k' b=>match lC k k' with
  |true=>a=b
  |false=>False
 | .str a,.str b=>a=b
 | .aW a,.aW b=>a=b
 | .dg a,.dg b=>a=b
 | .fn a,.fn b=>a=b
 | .bool a,.bool b=>a=b
 | .lit a,.lit b=>a=b
 | .lit a,.bool b=>a=b
 | .cW u xs,.cW v ys=>match qu u v with
  |some ⟨h⟩=>nx h xs=ys
  |none=>False
 |_,_=>False
def Cq (s t:bx):Prop:=match t,s with
 | .any,_=>True
 | .d y,.d x=>E7 x y
 | .d (.cW u ys),.ee=>ys=[]
 |t,s=>s=t
def Cr:List bx→List bx→Prop
 | [],[]=>True
 |s::l,t::m=>Cq s t∧Cr l m
 |_,_=>False
def Cs (s t:dG):Prop:=match s,t with
 | .one s,.one t=>Cq s t
 | .agg l,.agg m=>Cr l m
 | .agg _,.one .any=>True
 | .jx u x,.jx v y=>match qu u v with
  |some ⟨h⟩=>E6 h x=y
  |none=>False
 | .jx _ _,.one .any=>True
 |_,_=>False
def E8:List dG→List dG→Prop
 | [],[]=>True
 |s::l,t::m=>Cs s t∧E8 l m
 |_,_=>False
def sq (s t:aN):Prop:=match s,t with
 | .c s,.c t=>Cs s t
 | .c8 l,.c8 m=>E8 l m
 | .undef,.undef=>True
 |_,.c (.one .any)=>True
 |_,_=>False
def E9:List aN→List aN→Prop
 | [],[]=>True
 |s::l,t::m=>sq s t∧E9 l m
 |_,_=>False
def Fa:Option Prop→Option Prop→Option Prop
 |none,q=>q
 |some p,none=>some p
 |some p,some q=>some (p∧q)
def tJ:Option Prop→Prop
 |none=>True
 |some p=>p
def Fb (k:IntKind):List bx→Option (Int×List bx×Option Prop)
 | .d (.int k' n)::l=>match lC k' k with
  |true=>some (n,l,none)
  |false=>none
 |_=>none
def Fc:List bx→Option (UInt8×List bx×Option Prop)
 | .d (.int k' n)::l=>match lC k' .u8 with
  |true=>some (UInt8.ofNat n.toNat,l,some (0≤n∧n < 256))
  |false=>none
 |_=>none
def Fe:List bx→Option (Bool×List bx×Option Prop)
 | .d (.lit b)::l=>some (b,l,none)
 | .d (.bool b)::l=>some (b,l,none)
 |_=>none
def Ff:List bx→Option (List UInt8×List bx×Option Prop)
 | .d (.str s)::l=>some (s,l,none)
 |_=>none
def Fg:List bx→Option (Option Nat×List bx×Option Prop)
 | .d (.aW x)::l=>some (x,l,none)
 | .raw (.pointer none)::l=>some (none,l,none)
 |_=>none
def Fh:List bx→Option (Option (Nat×Nat×Nat)×List bx×Option Prop)
 | .d (.dg x)::l=>some (x,l,none)
 | .ee::l=>some (none,l,none)
 |_=>none
def Ac:List ki→Option (List Nat)
 | []=>some []
 | .d (.aW (some b))::l=>match Ac l with
  |some r=>some (b::r)
  |none=>none
 |_=>none
def Fi:List bx→Option ((Nat×List Nat)×List bx×Option Prop)
 | .d (.fn x)::l=>some (x,l,none)
 | .eH f m::l=>match Ac m with
  |some bs=>some ((f,bs),l,none)
  |none=>none
 |_=>none
def Fj (u:U):List bx→Option (List (aJ u)×List bx×Option Prop)
 | .ee::l=>some ([],l,none)
 | .d (.cW v xs)::l=>match qu v u with
  |some ⟨h⟩=>some (nx h xs,l,none)
  |none=>none
 |_=>none
def ny:(u:U)→List bx→Option (aJ u×List bx×Option Prop)
 | .int k,l=>Fb k l
 | .u8,l=>Fc l
 | .bool,l=>Fe l
 | .str,l=>Ff l
 | .aW,l=>Fg l
 | .dg,l=>Fh l
 | .fn,l=>Fi l
 | .sl u,l=>Fj u l
 | .pr u v,l=>match ny u l with
  |some (x,l,p)=>match ny v l with
   |some (y,l,q)=>some ((x,y),l,Fa p q)
   |none=>none
  |none=>none
 | .arr _ _,_=>none
def wz (u:U):Nat→List bx→Option (List (aJ u)×Option Prop)
 |0,[]=>some ([],none)
 |0,_=>none
 |n+1,l=>match ny u l with
  |some (x,l,p)=>match wz u n l with
   |some (xs,q)=>some (x::xs,Fa p q)
   |none=>none
  |none=>none
def Ct (n:Nat) (l:List bx):List bx:=match n with
 |0=>[]
 |n+1=>l++Ct n l
def fE (u:U) (x:aJ u) (o:Nat):Nat→List bx
 |0=>[]
 |n+1=>.d (eW u x o)::fE u x (o+1) n
def uS (k:IntKind) (n:Int):Prop:=match k with
 | .i64=> -9223372036854775808≤n∧n≤9223372036854775807
 | .u8=>0≤n∧n < 256
 | .u16=>0≤n∧n < 65536
 | .u32=>0≤n∧n < 4294967296
 | .u64=>0≤n∧n < 18446744073709551616
 | .i32=> -2147483648≤n∧n≤2147483647
 | .i16=> -32768≤n∧n≤32767
 | .i8=> -128≤n∧n≤127
def l6 (P:Program) (f:FuncId):Bool:=match P.funcs[f]? with
 |some fn=> !(fn.name == "runtime.NumGoroutine" ||fn.body.isNone)
 |none=>false
def Fn (P:Program) (f:FuncId) (args:List aN) (aP:aG) (bu:List Nat) (res:aN) (aZ:aG):Prop:=
 l6 P f=true∧ ∀(ρ:Nat→bn) (F:Nat→Nat→Prop) (I:Nat→Prop) (w:World) (b6:List Value),
  (∀b,I b→b < w.heap.size)→(∀c ch,ax aP c=some ch→Holds ρ I (F c) w (ρ c) ch)→(∀c ch,ax aP c=some ch→ ∀b,F c b→b < w.heap.size∧ ¬I b)→
  (∀c bY ch bg b,ax aP c=some ch→ax aP bY=some bg→c≠bY→F c b→ ¬F bY b)→
  b6.length=args.length→(∀(i:Nat) (v:aN) (x:Value),args[i]? =some v→b6[i]? =some x→cj ρ I w v x)→
  Calls P f b6.toArray w fun e w'=> ∃(x:Value) (ρ':Nat→bn) (F':Nat→Nat→Prop),e= .returned x∧Fr (fun b=> ∃c ch,ax aP c=some ch∧F c b) w w'∧(∀c,c∉bu→ρ' c=ρ c)∧
   ∃I':Nat→Prop,Ext I w I' w'∧(∀b,I' b→b < w'.heap.size∧(I b∨(∃c ch,ax aP c=some ch∧F c b)∨w.heap.size≤b))∧
   (∀c ch,ax aZ c=some ch→Holds ρ' I' (F' c) w' (ρ' c) ch)∧
   (∀c ch,ax aZ c=some ch→ ∀b,F' c b→b < w'.heap.size∧ ¬I' b∧((∃cy cr,ax aP cy=some cr∧F cy b)∨w.heap.size≤b))∧
   (∀c bY ch bg b,ax aZ c=some ch→ax aZ bY=some bg→c≠bY→F' c b→ ¬F' bY b)∧cj ρ' I' w' res x
def nA (B:aG):aG→Prop
 | []=>True
 |(c,ch)::l=>ax B c=some ch∧nA B l
def cS:aG→List Nat
 | []=>[]
 |(c,_)::l=>c::cS l
def Fk:aG→List (Nat×Option bF)
 | []=>[]
 |(c,ch)::l=>(c,some ch)::Fk l
def jy:aG→aG→List (Nat×Option bF)
 | [],m=>Fk m
 |(c,_)::l,m=>(c,none)::jy l m
def oI (aP:aG) (bu:List Nat):aG→Bool
 | []=>true
 |(c,_)::l=>((cS aP).contains c||bu.contains c)&& !(cS l).contains c&&oI aP bu l
def q5 (ids:List Nat) (K:aQ) (B:aG):List Nat→Bool
 | []=>true
 |c::l=>gu ids K B c&& !l.contains c&&q5 ids K B l
def wA (P:Program) (f:FuncId) (args:List aN) (ids:List Nat) (K:aQ) (B:aG) (k:aN→fk→Prop):Prop:=
 ∃aP bu res aZ,Fn P f args aP bu res aZ∧nA B aP∧(q5 ids K B bu&&oI aP bu aZ)=true∧og res fun r=>k r ⟨cS aP,bu,jy aP aZ⟩
def nB (k:IntKind) (n:Int) (q:Prop):Prop:=match k with
 | .i64=>(-9223372036854775808≤n∧n≤9223372036854775807)∧q
 | .u8=>(0≤n∧n < 256)∧q
 | .u16=>(0≤n∧n < 65536)∧q
 | .u32=>(0≤n∧n < 4294967296)∧q
 | .u64=>(0≤n∧n < 18446744073709551616)∧q
 | .i32=>(-2147483648≤n∧n≤2147483647)∧q
 | .i16=>(-32768≤n∧n≤32767)∧q
 | .i8=>(-128≤n∧n≤127)∧q
theorem wB {k:IntKind} {n:Int} {q:Prop} (h:nB k n q):uS k n∧q:=by cases k <;>exact h
def wC:List aN→Option (List ki)
 | []=>some []
 | .c (.one (.ptr c o))::l=>match wC l with
  |some r=>some (.p c o::r)
  |none=>none
 | .c (.one (.d x))::l=>match wC l with
  |some r=>some (.d x::r)
  |none=>none
 |_=>none
def tK:List Nat→List aN
 | []=>[]
 |b::l=>.c (.one (.d (.aW (some b))))::tK l
def oh:List ki→List aN
 | []=>[]
 | .p c o::l=>.c (.one (.ptr c o))::oh l
 | .d x::l=>.c (.one (.d x))::oh l
def Cu (op:BinOp) (x y:aN) (k:aN→fk→Prop):Prop:=match x,y with
 | .c (.one (.d (.int i a))),.c (.one (.d (.int j b)))=>match lC i j,op with
  |true,.add=>nB i (a+b) (k (.c (.one (.d (.int i (a+b))))) bt)
  |true,.sub=>nB i (a - b) (k (.c (.one (.d (.int i (a - b))))) bt)
  |true,.mul=>nB i (a*b) (k (.c (.one (.d (.int i (a*b))))) bt)
  |true,.quo=>(0≤a∧0 < b)∧nB i (a/b) (k (.c (.one (.d (.int i (a/b))))) bt)
  |true,.rem=>(0≤a∧0 < b)∧nB i (a % b) (k (.c (.one (.d (.int i (a % b))))) bt)
  |_,.shl=>match lC i .i64 with
   |true=>(0≤a∧0≤b∧b≤64)∧nB i (a*(2 ^b.toNat:Nat)) (k (.c (.one (.d (.int i (a*(2 ^b.toNat:Nat)))))) bt)
   |false=>False
  |_,.shr=>match lC i .i64 with
   |true=>(0≤a∧0≤b∧b≤64)∧k (.c (.one (.d (.int i (a/(2 ^b.toNat:Nat)))))) bt
   |false=>False
  |true,.or=>match lC i .i64 with
   |true=>(0≤a∧a≤9223372036854775807∧0≤b∧b≤9223372036854775807)∧k (.c (.one (.d (.int i ((a.toNat ||| b.toNat:Nat):Int))))) bt
   |false=>False
  |true,.eql=>k (.c (.one (.d (.bool (decide (a=b)))))) bt
  |true,.neq=>k (.c (.one (.d (.bool (!decide (a=b)))))) bt
  |true,.lss=>k (.c (.one (.d (.bool (decide (a < b)))))) bt
  |true,.leq=>k (.c (.one (.d (.bool (decide (a≤b)))))) bt
  |true,.gtr=>k (.c (.one (.d (.bool (decide (b < a)))))) bt
  |true,.geq=>k (.c (.one (.d (.bool (decide (b≤a)))))) bt
  |_,_=>False
 | .c (.one (.d (.str a))),.c (.one (.d (.str b)))=>match op with
  | .add=>a.length+b.length≤4294967296∧k (.c (.one (.d (.str (a++b))))) bt
  | .eql=>k (.c (.one (.d (.bool (decide (a=b)))))) bt
  | .neq=>k (.c (.one (.d (.bool (!decide (a=b)))))) bt
  | .lss=>k (.c (.one (.d (.bool (Op.bytesLess a b))))) bt
  | .leq=>k (.c (.one (.d (.bool (Op.bytesLess a b||decide (a=b)))))) bt
  | .gtr=>k (.c (.one (.d (.bool (!(Op.bytesLess a b||decide (a=b))))))) bt
  | .geq=>k (.c (.one (.d (.bool (!Op.bytesLess a b))))) bt
  |_=>False
 | .c (.one (.ptr _ _)),.c (.one (.raw (.pointer none)))=>match op with
  | .eql=>k (.c (.one (.d (.lit false)))) bt
  | .neq=>k (.c (.one (.d (.lit true)))) bt
  |_=>False
 | .c (.one (.raw (.pointer none))),.c (.one (.raw (.pointer none)))=>match op with
  | .eql=>k (.c (.one (.d (.lit true)))) bt
  | .neq=>k (.c (.one (.d (.lit false)))) bt
  |_=>False
 |_,_=>False
def Fl (tt:c4) (T:Nat):Bool:=match tt.find T with
 |some ti=>match ti.eu with
  | .ptr _=>true
  |_=>false
 |none=>false
def ye (tt:c4) (T:Nat):Bool:=match tt.find T with
 |some ti=>match ti.eu with
  | .ptr e=>match tt.find e with
   |some _=>true
   |none=>false
  |_=>false
 |none=>false
def Cv (tt:c4) (T:Nat) (x:Option Nat) (y:aN) (k:Bool→Prop):Prop:=match y with
 | .c (.one (.raw (.pointer none)))=>(∀b,x=some b→k false)∧(x=none→k true)
 | .c (.one (.d (.aW y)))=>match ye tt T with
  |true=>x=y∧k true
  |false=>False
 |_=>False
def Cw (tt:c4) (T:Nat) (op:BinOp) (x y:aN) (k:aN→fk→Prop):Prop:=match x with
 | .c (.one (.d (.aW x)))=>match op with
  | .eql=>Cv tt T x y fun b=>k (.c (.one (.d (.lit b)))) bt
  | .neq=>Cv tt T x y fun b=>k (.c (.one (.d (.lit !b)))) bt
  |_=>False
 |x=>Cu op x y k
def isBool (tt:c4) (T:Nat):Bool:=match tt.find T with
 |some ti=>match ti.eu with
  | .bool=>true
  |_=>false
 |none=>false
def Cx (op:BinOp) (a:Bool) (y:aN) (k:aN→fk→Prop):Prop:=match op,y with
 | .eql,.c (.one (.d (.bool b)))=>k (.c (.one (.d (.bool (a == b))))) bt
 | .eql,.c (.one (.d (.lit b)))=>k (.c (.one (.d (.bool (a == b))))) bt
 | .neq,.c (.one (.d (.bool b)))=>k (.c (.one (.d (.bool (!(a == b)))))) bt
 | .neq,.c (.one (.d (.lit b)))=>k (.c (.one (.d (.bool (!(a == b)))))) bt
 |_,_=>False
def Fm (tt:c4) (T f:Nat):Option (Nat×Nat):=match tt.find T with
 |some ti=>match ti.eu with
  | .st=>ti.l5[f]?
  |_=>none
 |none=>none
def elemOf (tt:c4) (T:Nat):Option (Nat×cD):=match tt.find T with
 |some ti=>match ti.eu with
  | .sl e=>match tt.find e with
   |some te=>some (e,te)
   |none=>none
  |_=>none
 |none=>none
def isStr (tt:c4) (T:Nat):Bool:=match tt.find T with
 |some ti=>match ti.eu with
  | .str=>true
  |_=>false
 |none=>false
def wD (tt:c4) (T:Nat):Option (Nat×Nat):=match tt.find T with
 |some ti=>match ti.eu with
  | .mp k e=>some (k,e)
  |_=>none
 |none=>none
def Fo (tt:c4) (T:Nat) (B:aG) (x:aN):Option (Nat×List Nat):=match x with
 | .c (.one (.d (.str s)))=>match isStr tt T with
  |true=>some (s.length,[])
  |false=>none
 | .c (.one (.d (.cW _ xs)))=>match elemOf tt T with
  |some _=>some (xs.length,[])
  |none=>none
 | .c (.one .ee)=>match elemOf tt T with
  |some _=>some (0,[])
  |none=>none
 | .c (.one (.own c))=>match elemOf tt T with
  |some _=>match ax B c with
   |some (.row _ _ xs)=>some (xs.length,[c])
   |_=>none
  |none=>none
 | .c (.one (.mp c))=>match wD tt T with
  |some _=>match ax B c with
   |some (.map _ _ es)=>some (es.length,[c])
   |_=>none
  |none=>none
 |_=>none
def qv (tt:c4) (e:Nat):Bool:=match tt.find e with
 |some te=>match te.eu,te.zero,te.size,te.bytes with
  | .int .u8,[.d (.int .u8 0)],1,1=>true
  |_,_,_,_=>false
 |none=>false
def Fp (tt:c4) (S T:Nat) (x:aN) (B:aG) (k:aN→fk→Prop):Prop:=match tt.find S,tt.find T with
 |some J6,some ti=>match J6.eu,ti.eu,x with
  | .int i,.int j,.c (.one (.d (.int _ n)))=>match lC j .u8,lC i .u8 with
   |true,false=>k (.c (.one (.d (.int j (n % 256))))) bt
   |_,_=>nB j n (k (.c (.one (.d (.int j n)))) bt)
  | .str,.sl e,.c (.one (.d (.str s)))=>match qv tt e with
   |true=>s.length≤4294967296∧k (.c (.one (.d (.cW .u8 s)))) bt
   |false=>False
  | .sl e,.str,.c (.one (.d (.cW .u8 s)))=>match qv tt e with
   |true=>k (.c (.one (.d (.str s)))) bt
   |false=>False
  | .sl e,.str,.c (.one .ee)=>match qv tt e with
   |true=>k (.c (.one (.d (.str [])))) bt
   |false=>False
  | .sl e,.str,.c (.one (.own c))=>match ax B c,qv tt e with
   |some (.row _ .u8 s),true=>k (.c (.one (.d (.str s)))) ⟨[c],[],[]⟩
   |_,_=>False
  |_,_,_=>False
 |_,_=>False
def yf (n:Nat) (jU ay:Option aN):Option (Nat×Nat×Prop):=match jU,ay with
 |none,some (.c (.one (.d (.int .i64 j))))=>some (0,j.toNat,0≤j∧j≤n)
 |some (.c (.one (.d (.int .i64 i)))),none=>some (i.toNat,n,0≤i∧i≤n)
 |some (.c (.one (.d (.int .i64 i)))),some (.c (.one (.d (.int .i64 j))))=>some (i.toNat,j.toNat,0≤i∧i≤j∧j≤n)
 |none,none=>some (0,n,True)
 |_,_=>none
def Fq (tt:c4) (T:Nat) (x:aN) (jU ay:Option aN) (k:aN→fk→Prop):Prop:=match x with
 | .c (.one (.d (.str s)))=>match isStr tt T,yf s.length jU ay with
  |true,some (l,h,p)=>p∧k (.c (.one (.d (.str ((s.take h).drop l))))) bt
  |_,_=>False
 | .c (.one (.d (.cW u xs)))=>match elemOf tt T,yf xs.length jU ay with
  |some (_,te),some (l,h,p)=>match Nat.beq te.size (aM u) with
   |true=>p∧k (.c (.one (.d (.cW u ((xs.take h).drop l))))) bt
   |false=>False
  |_,_=>False
 |_=>False
def Fs (tt:c4) (T:Nat) (x y:aN) (dst:Option Nat) (ids:List Nat) (K:aQ) (B:aG) (k:aN→fk→Prop):Prop:=match elemOf tt T,dst with
 |some (e,te),some d=>match te.u,y with
  |some u,.c (.one (.d (.cW v ys)))=>match qu v u with
   |some ⟨h⟩=>match x with
    | .c (.one .ee)=>ys.length≤4294967296∧gu ids K B d=true∧k (.c (.one (.own d))) ⟨[],[d],[(d,some (.row e u (nx h ys)))]⟩
    | .c (.one (.own c))=>match ax B c with
     |some (.row e' sk xs)=>match Nat.beq e' e,qu sk u with
      |true,some ⟨h'⟩=>xs.length+ys.length≤4294967296∧gu ids K B d=true∧k (.c (.one (.own d))) ⟨[c],[d],[(c,none),(d,some (.row e u (nx h' xs++nx h ys)))]⟩
      |_,_=>False
     |_=>False
    |_=>False
   |none=>False
  |some u,.c (.one (.own bq))=>match x with
   | .c (.one (.own c))=>match ax B c,ax B bq with
    |some (.row e' sk xs),some (.row aq v ys)=>match Nat.beq c bq,Nat.beq e' e,qu v u,qu sk u with
     |false,true,some ⟨h⟩,some ⟨h'⟩=>xs.length+ys.length≤4294967296∧gu ids K B d=true∧k (.c (.one (.own d))) ⟨[c,bq],[d],[(c,none),(d,some (.row e u (nx h' xs++nx h ys)))]⟩
     |_,_,_,_=>False
    |_,_=>False
   |_=>False
  |_,_=>False
 |_,_=>False
def Ft (tt:c4) (T eG:Nat) (x y:aN) (dst:Option Nat) (ids:List Nat) (K:aQ) (B:aG) (k:aN→fk→Prop):Prop:=match elemOf tt T,isStr tt eG,dst with
 |some (e,te),true,some d=>match x,y with
  | .c (.one (.own c)),.c (.one (.d (.str s)))=>match qv tt e,ax B c with
   |true,some (.row e' .u8 xs)=>match Nat.beq e' e with
    |true=>List.length (α:=UInt8) xs+s.length≤4294967296∧gu ids K B d=true∧k (.c (.one (.own d))) ⟨[c],[d],[(c,none),(d,some (.row e .u8 (List.append (α:=UInt8) xs s)))]⟩
    |false=>False
   |_,_=>False
  |_,_=>False
 |_,_,_=>False
def yg:(aO:U)→aN→Option (aJ aO)
 | .int k,.c (.one (.d (.int k' n)))=>match lC k' k with
  |true=>some n
  |false=>none
 | .str,.c (.one (.d (.str s)))=>some s
 |_,_=>none
def Fu:(u:U)→aJ u→dG
 | .pr u v,x=>.agg (fE (.pr u v) x 0 (aM (.pr u v)))
 | .arr n u,x=>.agg (fE (.arr n u) x 0 (aM (.arr n u)))
 | .int k,x=>.one (.d (eW (.int k) x 0))
 | .u8,x=>.one (.d (eW .u8 x 0))
 | .bool,x=>.one (.d (eW .bool x 0))
 | .str,x=>.one (.d (eW .str x 0))
 | .aW,x=>.one (.d (eW .aW x 0))
 | .dg,x=>.one (.d (eW .dg x 0))
 | .fn,x=>.one (.d (eW .fn x 0))
 | .sl u,x=>.one (.d (eW (.sl u) x 0))
def Cy:bx→D→Bool
 | .d (.int k n),.int k' m=>lC k k'&&decide (n=m)
 | .d (.str []),.str []=>true
 | .raw (.pointer none),.aW none=>true
 | .ee,.dg none=>true
 | .d (.lit b),.bool c=>b == c
 | .ee,.cW _ []=>true
 |_,_=>false
def ir:List bx→List bx→Bool
 | [],[]=>true
 |s::l,.d x::m=>Cy s x&&ir l m
 |_,_=>false
def wE (tt:c4) (kt:Nat) (aO:U):Bool:=match tt.find kt with
 |some ti=>match ti.eu,aO with
  | .int k,.int k'=>lC k k'
  | .str,.str=>true
  |_,_=>false
 |none=>false
def Cz (tt:c4) (et:Nat) (aV:U):Bool:=match tt.find et with
 |some ti=>ir ti.zero (fE aV (dflt aV) 0 (aM aV))&&(ti.row == !mQ aV)&&(mQ aV||Nat.ble 2 (aM aV))
 |none=>false
def Fv (tt:c4) (T:Nat) (x i:aN) (ok:Bool) (B:aG) (k:aN→fk→Prop):Prop:=match x with
 | .c (.one (.mp c))=>match ax B c with
  |some (.map aO aV es)=>match wD tt T,yg aO i with
   |some (kt,et),some key=>match wE tt kt aO&&Cz tt et aV,ok with
    |true,true=>wu (Fu aV ((cz es key).getD (dflt aV))) fun x=>k (.c8 [x,.one (.d (.bool (cz es key).isSome))]) ⟨[c],[],[]⟩
    |true,false=>wu (Fu aV ((cz es key).getD (dflt aV))) fun x=>k (.c x) ⟨[c],[],[]⟩
    |false,_=>False
   |_,_=>False
  |_=>False
 |_=>False
def Fw (u:U) (x:aN):Option (aJ u×Option Prop):=match x with
 | .c (.jx v y)=>match qu v u,mQ u with
  |some ⟨h⟩,false=>some (E6 h y,none)
  |_,_=>none
 | .c (.one s)=>match mQ u,ny u [s] with
  |true,some (y,[],p)=>some (y,p)
  |_,_=>none
 | .c (.agg l)=>match mQ u,ny u l with
  |false,some (y,[],p)=>some (y,p)
  |_,_=>none
 |_=>none
def Fx (tt:c4) (T:Nat) (x i v:aN) (B:aG) (k:aN→fk→Prop):Prop:=match x with
 | .c (.one (.mp c))=>match ax B c with
  |some (.map aO aV es)=>match wD tt T,yg aO i with
   |some (kt,et),some key=>match wE tt kt aO,Fw aV v with
    |true,some (y,p)=>tJ p∧k .undef ⟨[c],[],[(c,some (.map aO aV (gI es key y)))]⟩
    |true,none=>match v,mQ aV with
     | .c (.agg l),false=> ∃y:aJ aV,(nt aV y∧l=fE aV y 0 (aM aV))∧k .undef ⟨[c],[],[(c,some (.map aO aV (gI es key y)))]⟩
     |_,_=>False
    |false,_=>False
   |_,_=>False
  |_=>False
 |_=>False
def Fy (tt:c4) (T:Nat) (x i:aN) (B:aG) (k:aN→fk→Prop):Prop:=match x with
 | .c (.one (.mp c))=>match ax B c with
  |some (.map aO aV es)=>match wD tt T,yg aO i with
   |some (kt,et),some key=>match wE tt kt aO with
    |true=>k (.c8 []) ⟨[c],[],[(c,some (.map aO aV (jT es key)))]⟩
    |false=>False
   |_,_=>False
  |_=>False
 |_=>False
def Fz (tt:c4) (T:Nat) (dst:Option Nat) (ids:List Nat) (K:aQ) (B:aG) (k:aN→fk→Prop):Prop:=match wD tt T,dst with
 |some (kt,et),some d=>match tt.find kt,tt.find et with
  |some J7,some sr=>match J7.u,sr.u with
   |some aO,some aV=>gu ids K B d=true∧k (.c (.one (.mp d))) ⟨[],[d],[(d,some (.map aO aV []))]⟩
   |_,_=>False
  |_,_=>False
 |_,_=>False
def FA (tt:c4) (T c:Nat) (B:aG) (k:aN→fk→Prop):Prop:=match tt.find T with
 |some ti=>match ti.eu,ti.u with
  | .arr n e,some (.arr m v)=>match Nat.beq n m&&Nat.ble n 1000000&&Nat.blt 0 n,tt.find e,ax B c with
   |true,some _,some (.cells l)=> ∃ys:List (aJ v),(nt (.arr n v) ys∧l=fE (.arr n v) ys 0 (aM (.arr n v)))∧k (.c (.one (.d (.cW v ys)))) ⟨[c],[],[(c,none)]⟩
   |_,_,_=>False
  |_,_=>False
 |none=>False
def FB (tt:c4) (T:Nat) (x:aN) (k:aN→fk→Prop):Prop:=match tt.find T,x with
 |some ti,.c (.one (.d (.cW v xs)))=>match ti.eu with
  | .arr n _=>(0 < n∧n≤List.length xs)∧k (.c (.one (.el (.arr n v) (List.take n xs) 0))) bt
  |_=>False
 |_,_=>False
def bI (P:Program) (N:Nat) (ids:List Nat) (o:Oper) (K:aQ) (B:aG) (v:aN) (e:fk):Prop:=
 ∀(K':aQ) (B':aG),(∀x,x∈o.op.operands→aU K' x=aU K x)→(∀c,c∈e.rc→ax B' c=ax B c)→(∀c,c∈e.bu→gu ids K' B' c=true)→
  ∀(C:Ctx) (a:Act) (w:World),Sat N ids C K' B' a w→(∀d,o.dst=some d→d < N)→ ∀(fl:Act→World→Prop) (Q:Exit→Act→World→Prop),
   (∀a' w',Sat N ids C (lZ o.dst v K') (e5 e.wc B') a' w'→fl a' w')→o.wp P a w fl Q
def laid (xs:List UInt8) (off n:Nat) (ys:List UInt8):List UInt8:=xs.take off++ys.take n++xs.drop (off+(ys.take n).length)
def CA (c off n:Nat) (ys:List UInt8) (B:aG) (k:aN→fk→Prop):Prop:=match ax B c with
 |some (.row e .u8 xs)=>off+n≤xs.length∧k (.c (.one .any)) ⟨[c],[],[(c,some (.row e .u8 (laid xs off n ys)))]⟩
 |_=>False
def FC (tt:c4) (T:Nat) (x y:aN) (B:aG) (k:aN→fk→Prop):Prop:=match elemOf tt T with
 |some (e,_)=>match qv tt e,y with
  |true,.c (.one (.d (.cW .u8 ys)))=>match x with
   | .c (.one (.own c))=>match ax B c with
    |some (.row _ .u8 xs)=>CA c 0 (List.length xs) ys B k
    |_=>False
   | .c (.one (.os c s off n))=>match Nat.beq s 1 with
    |true=>CA c off n ys B k
    |false=>False
   |_=>False
  |_,_=>False
 |none=>False
def Ad (P:Program) (ids:List Nat) (o:Oper) (K:aQ) (B:aG) (k:aN→fk→Prop):Prop:=
 ∃v e,(∀N,bI P N ids o K B v e)∧q5 ids K B e.bu=true∧og v fun v=>k v e
def FD (P:Program) (tt:c4) (ids:List Nat) (o:Oper) (K:aQ) (B:aG) (k:aN→fk→Prop):Prop:=match o.op with
 | .move x=>og (aU K x) fun v=>k v bt
 | .assign x=>og (aU K x) fun v=>k v bt
 | .pick c x y=>match aU K c with
  | .c (.one (.d (.lit true)))=>og (aU K x) fun v=>k v bt
  | .c (.one (.d (.lit false)))=>og (aU K y) fun v=>k v bt
  |_=>False
 | .binOp op T x y _=>match op,Fl tt T with
  | .eql,true=>Cw tt T .eql (aU K x) (aU K y) k
  | .neq,true=>Cw tt T .neq (aU K x) (aU K y) k
  |op,false=>match aU K x with
   | .c (.one (.ptr _ _))=>False
   | .c (.one (.raw _))=>False
   | .c (.one (.d (.bool a)))=>match isBool tt T with
    |true=>Cx op a (aU K y) k
    |false=>False
   | .c (.one (.d (.lit a)))=>match isBool tt T with
    |true=>Cx op a (aU K y) k
    |false=>False
   |_=>Cu op (aU K x) (aU K y) k
  |_,_=>False
 | .unOp .not _ x=>match aU K x with
  | .c (.one (.d (.lit true)))=>k (.c (.one (.d (.lit false)))) bt
  | .c (.one (.d (.lit false)))=>k (.c (.one (.d (.lit true)))) bt
  | .c (.one (.d (.bool b)))=>k (.c (.one (.d (.bool (!b))))) bt
  |_=>False
 | .extract x i=>match aU K x with
  | .c8 l=>match l[i]? with
   |some v=>k (.c v) bt
   |none=>False
  |_=>False
 | .nilCheck x=>match aU K x with
  | .c (.one (.ptr c o))=>k (.c (.one (.ptr c o))) bt
  | .c (.one (.el u y o))=>k (.c (.one (.el u y o))) bt
  | .c (.one (.fh c s i o))=>k (.c (.one (.fh c s i o))) bt
  |_=>False
 | .fieldAddr T x f=>match Fm tt T f with
  |some (d,_)=>match aU K x with
   | .c (.one (.ptr c o))=>k (.c (.one (.ptr c (o+d)))) bt
   | .c (.one (.el u y o))=>k (.c (.one (.el u y (o+d)))) bt
   | .c (.one (.fh c s i o))=>k (.c (.one (.fh c s i (o+d)))) bt
   |_=>False
  |none=>False
 | .load T x=>match tt.find T with
  |some ti=>match aU K x with
   | .c (.one (.ptr c o))=>match ax B c with
    |some (.cells l)=>match ti.row with
     |true=>match Nat.ble (o+ti.size) l.length with
      |true=>oH ((l.drop o).take ti.size) fun l=>k (.c (.agg l)) ⟨[c],[],[]⟩
      |false=>False
     |false=>match l[o]? with
      |some s=>yc s fun s=>k (.c (.one s)) ⟨[c],[],[]⟩
      |none=>False
    |_=>False
   | .c (.one (.el u y o))=>match ti.row with
    |true=>match Nat.ble (o+ti.size) (aM u) with
     |true=>oH (fE u y o ti.size) fun l=>k (.c (.agg l)) bt
     |false=>False
    |false=>match Nat.blt o (aM u) with
     |true=>yb (eW u y o) fun x=>k (.c (.one (.d x))) bt
     |false=>False
   | .c (.one (.fh c s i o))=>match ax B c with
    |some (.row _ u xs)=>match Nat.beq s (aM u) with
     |true=> ∃y,ff xs i=some y∧match ti.row with
      |true=>match Nat.ble (o+ti.size) (aM u) with
       |true=>oH (fE u y o ti.size) fun l=>k (.c (.agg l)) ⟨[c],[],[]⟩
       |false=>False
      |false=>match Nat.blt o (aM u) with
       |true=>yb (eW u y o) fun x=>k (.c (.one (.d x))) ⟨[c],[],[]⟩
       |false=>False
     |false=>False
    |_=>False
   |_=>False
  |none=>False
 | .store T x v=>match tt.find T with
  |some ti=>match aU K x with
   | .c (.one (.ptr c o))=>match ax B c with
    |some (.cells l)=>match uQ (aU K v) with
     |some cs=>match Nat.beq cs.length ti.size,Nat.ble (o+cs.length) l.length with
      |true,true=>oH (Ab l o cs) fun l=>k .undef ⟨[c],[],[(c,some (.cells l))]⟩
      |_,_=>False
     |none=>False
    |_=>False
   | .c (.one (.fh c s i o))=>match ax B c with
    |some (.row e u xs)=>match Nat.beq (aM u) 1,Nat.beq s 1,Nat.beq o 0,Nat.beq ti.size 1,aU K v with
     |true,true,true,true,.c (.one uT)=>match ny u [uT] with
      |some (y,[],p)=>(tJ p∧i < xs.length)∧k .undef ⟨[c],[],[(c,some (.row e u (xs.set i y)))]⟩
      |_=>False
     |_,_,_,_,_=>False
    |_=>False
   |_=>False
  |none=>False
 | .alloc T=>match tt.find T,o.dst with
  |some ti,some d=>gu ids K B d=true∧k (.c (.one (.ptr d 0))) ⟨[],[d],[(d,some (.cells ti.zero))]⟩
  |_,_=>False
 | .box T x=>match tt.find T,o.dst,uQ (aU K x) with
  |some ti,some d,some l=>match Nat.beq l.length ti.size with
   |true=>gu ids K B d=true∧k (.c (.one (.ptr d 0))) ⟨[],[d],[(d,some (.cells l))]⟩
   |false=>False
  |_,_,_=>False
 | .build T ps=>match tt.find T with
  |some ti=>match ti.eu,uR K (fun f=>ti.l5[f]?) ps.toList ti.zero with
   | .st,some l=>oH l fun l=>k (.c (.agg l)) bt
   |_,_=>False
  |none=>False
 | .buildSlice T 0 ps=>match ps.toList with
  | []=>match elemOf tt T,o.dst with
   |some (e,te),some d=>match te.u with
    |some u=>gu ids K B d=true∧k (.c (.one (.own d))) ⟨[],[d],[(d,some (.row e u []))]⟩
    |none=>False
   |_,_=>False
  |_=>False
 | .buildSlice T n ps=>match elemOf tt T with
  |some (_,te)=>match te.u with
   |some u=>match Nat.ble (n*te.size) 1000,uR K (fun i=>some (i*te.size,te.size)) ps.toList (Ct n te.zero) with
    |true,some l=>match wz u n l with
     |some (xs,none)=>k (.c (.one (.d (.cW u xs)))) bt
     |some (xs,some p)=>p∧k (.c (.one (.d (.cW u xs)))) bt
     |none=>n=1∧ ∃y:aJ u,(nt u y∧l=fE u y 0 (aM u))∧k (.c (.one (.d (.cW u [y])))) bt
    |_,_=>False
   |none=>False
  |none=>False
 | .indexAddr T x i=>match elemOf tt T,aU K i with
  |some (_,te),.c (.one (.d (.int .i64 n)))=>match aU K x with
   | .c (.one (.d (.cW u xs)))=>match Nat.beq te.size (aM u) with
    |true=>0≤n∧ ∃y,ff xs n.toNat=some y∧k (.c (.one (.el u y 0))) bt
    |false=>False
   | .c (.one (.own c))=>match ax B c with
    |some (.row _ u xs)=>match Nat.beq te.size (aM u) with
     |true=>(0≤n∧n < xs.length)∧k (.c (.one (.fh c (aM u) n.toNat 0))) ⟨[c],[],[]⟩
     |false=>False
    |_=>False
   |_=>False
  |_,_=>False
 | .index T x i=>match isStr tt T,aU K x,aU K i with
  |true,.c (.one (.d (.str s))),.c (.one (.d (.int .i64 n)))=>0≤n∧ ∃y,ff s n.toNat=some y∧k (.c (.one (.d (.int .u8 (UInt8.toNat y:Int))))) bt
  |_,_,_=>False
 | .slice T x jU ay none=>match aU K x with
  | .c (.one (.own c))=>match elemOf tt T,ax B c with
   |some (_,te),some (.row _ u xs)=>match yf xs.length (jU.map (aU K)) (ay.map (aU K)),Nat.beq te.size (aM u) with
    |some (l,h,p),true=>p∧k (.c (.one (.os c (aM u) l (h - l)))) ⟨[c],[],[]⟩
    |_,_=>False
   |_,_=>False
  | .c (.one (.ptr c o))=>match jU,ay,Nat.beq o 0 with
   |none,none,true=>FA tt T c B k
   |_,_,_=>False
  |_=>Fq tt T (aU K x) (jU.map (aU K)) (ay.map (aU K)) k
 | .sliceToArrayPointer T x=>FB tt T (aU K x) k
 | .convert S T x=>Fp tt S T (aU K x) B k
 | .lookup T x i ok=>Fv tt T (aU K x) (aU K i) ok B k
 | .mapUpdate T x i v=>Fx tt T (aU K x) (aU K i) (aU K v) B k
 | .makeMap T none=>Fz tt T o.dst ids K B k
 | .makeFunc (.func f) fs cs=>match fs.toList,wC (cs.toList.map (aU K)) with
  | [],some l=>k (.c (.one (.eH f l))) bt
  |_,_=>False
 | .makeSlice T x y=>match elemOf tt T,aU K x,aU K y,o.dst with
  |some (e,te),.c (.one (.d (.int .i64 n))),.c (.one (.d (.int .i64 m))),some d=>match qv tt e with
   |true=>(n=m∧0≤n∧n≤4294967296)∧gu ids K B d=true∧k (.c (.one (.own d))) ⟨[],[d],[(d,some (.row e .u8 (List.replicate n.toNat (0:UInt8))))]⟩
   |false=>False
  |_,_,_,_=>False
 | .call c=>match c.callee,c.args.toList with
  | .value (.func f),xs=>wA P f (xs.map (aU K)) ids K B k
  | .value (.tmp t),xs=>match look K t with
   | .c (.one (.eH f l))=>wA P f (xs.map (aU K)++oh l) ids K B k
   | .c (.one (.d (.fn x)))=>wA P x.1 (xs.map (aU K)++tK x.2) ids K B k
   |_=>False
  | .builtin .len,[x]=>match c.argTypes.toList with
   | [T]=>match Fo tt T B (aU K x) with
    |some (n,rc)=>k (.c (.one (.d (.int .i64 (n:Int))))) ⟨rc,[],[]⟩
    |none=>False
   |_=>False
  | .builtin .delete,[x,y]=>match c.argTypes.toList with
   | [T,_]=>Fy tt T (aU K x) (aU K y) B k
   |_=>False
  | .builtin .min,[x,y]=>match aU K x,aU K y with
   | .c (.one (.d (.int .i64 a))),.c (.one (.d (.int .i64 b)))=>k (.c (.one (.d (.int .i64 (min a b))))) bt
   |_,_=>False
  | .builtin .max,[x,y]=>match aU K x,aU K y with
   | .c (.one (.d (.int .i64 a))),.c (.one (.d (.int .i64 b)))=>k (.c (.one (.d (.int .i64 (max a b))))) bt
   |_,_=>False
  | .builtin .copy,[x,y]=>match c.argTypes.toList with
   | [T,eG]=>FC tt T (aU K x) (aU K y) B k
   |_=>False
  | .builtin .append,[x,y]=>match c.argTypes.toList with
   | [T,eG]=>match Nat.beq T eG with
    |true=>Fs tt T (aU K x) (aU K y) o.dst ids K B k
    |false=>Ft tt T eG (aU K x) (aU K y) o.dst ids K B k
   |_=>False
  |_,_=>Ad P ids o K B k
 |_=>Ad P ids o K B k
def CB (K:aQ) (B:aG) (x:Operand):Bool:=match aU K x with
 | .c (.one (.mp c))=>match ax B c with
  |some (.obj _)=>true
  |_=>false
 |_=>false
def CC:aN→Bool
 | .c (.one (.d (.aW _)))=>true
 | .c (.one (.raw _))=>true
 |_=>false
def J8 (K:aQ) (B:aG) (x:Operand):Bool:=match aU K x with
 | .c (.one (.ptr c _))=>match ax B c with
  |some (.val _ _)=>true
  |_=>false
 | .c (.one (.fh c _ _ _))=>match ax B c with
  |some (.val _ _)=>true
  |_=>false
 |_=>false
def Qs (K:aQ) (B:aG) (x:Operand):Bool:=match aU K x with
 | .c (.one (.fh c _ _ _))=>match ax B c with
  |some (.row _ u _)=> !Nat.beq (aM u) 1
  |_=>false
 |_=>false
def J9:aN→Bool
 | .c (.agg _)=>true
 | .c (.jx _ _)=>true
 |_=>false
def FE (K:aQ) (f:Nat):Bool:=match look K (1000000+f) with
 | .undef=>true
 |_=>false
def Qt (tt:c4) (o:Oper) (K:aQ) (B:aG):Bool:=match o.op with
 | .lookup _ x _ _=>CB K B x
 | .mapUpdate _ x _ _=>CB K B x
 | .indexAddr _ x _=>match aU K x with
  | .c (.one (.ptr _ _))=>true
  |_=>false
 | .nilCheck x=>CC (aU K x)
 | .fieldAddr _ x _=>CC (aU K x)
 | .load _ x=>CC (aU K x)||J8 K B x
 | .store _ x _=>CC (aU K x)||J8 K B x||Qs K B x
 | .binOp op _ x y _=>match op with
  | .and=>true
  |_=>match y with
   | .const .nilFunc=>true
   |_=>J9 (aU K x)||(match o.dst with
    |some d=>FE K (2000000+d)
    |none=>false)
 | .index _ x _=>J9 (aU K x)
 | .makeSlice T _ _=>match elemOf tt T with
  |some (e,_)=> !qv tt e
  |none=>false
 | .build T _=>match tt.find T with
  |some ti=>match ti.eu with
   | .arr _ _=>true
   |_=>false
  |none=>false
 | .buildSlice _ _ _=>match o.dst with
  |some d=>FE K (1000000+d)
  |none=>false
 | .call c=>match c.callee,c.args.toList with
  | .builtin .delete,x::_=>CB K B x
  | .builtin .len,x::_=>CB K B x
  | .value (.func f),_=>FE K f
  | .value (.tmp t),_=>match look K t with
   | .c (.one (.raw _))=>true
   |_=>false
  |_,_=>false
 | .makeFunc _ fs _=>match fs.toList with
  | []=>false
  |_=>true
 |_=>false
def yh (P:Program) (tt:c4) (ids:List Nat) (o:Oper) (K:aQ) (B:aG) (k:aN→fk→Prop):Prop:=match Qt tt o K B with
 |true=>Ad P ids o K B k
 |false=>FD P tt ids o K B k
def Ae (all:List Oper) (j:Nat):Option Nat:=match all[j]? with
 |some o=>o.dst
 |none=>none
def Af (i:Nat):List Oper→Bool
 | []=>false
 |o::l=>match o.guard with
  |some (j,_)=>match Nat.beq j i with
   |true=>true
   |false=>Af i l
  |none=>Af i l
def wants (all:List Oper) (K:aQ) (g:Option (Nat×Bool)):Option Bool:=match g with
 |none=>some true
 |some (j,want)=>match Ae all j with
  |none=>none
  |some s=>match look K s,want with
   | .c (.one (.d (.lit true))),true=>some true
   | .c (.one (.d (.lit true))),false=>some false
   | .c (.one (.d (.lit false))),true=>some false
   | .c (.one (.d (.lit false))),false=>some true
   | .undef,_=>some false
   |_,_=>none
structure kn where
 i:Nat
 v:aN
 e:fk
def CD (P:Program) (tt:c4) (ids:List Nat) (all:List Oper) (o:Oper) (l:List Oper) (aY:Nat→aQ→aG→List kn→Prop) (i:Nat) (K:aQ) (B:aG) (log:List kn):Prop:=
 match wants all K o.guard with
 |none=>False
 |some false=>match o.dst with
  |some d=>aY (i+1) ((d,.undef)::K) B (⟨i,.undef,bt⟩::log)
  |none=>aY (i+1) K B (⟨i,.undef,bt⟩::log)
 |some true=>yh P tt ids o K B fun v e=>match o.dst with
  |none=>aY (i+1) K (e5 e.wc B) (⟨i,.undef,e⟩::log)
  |some d=>match Af i l,v with
   |true,.c (.one (.d (.bool b)))=>
    (b=true→aY (i+1) ((d,.c (.one (.d (.lit true))))::K) (e5 e.wc B) (⟨i,.c (.one (.d (.lit true))),e⟩::log))∧
    (b=false→aY (i+1) ((d,.c (.one (.d (.lit false))))::K) (e5 e.wc B) (⟨i,.c (.one (.d (.lit false))),e⟩::log))
   |_,v=>aY (i+1) ((d,v)::K) (e5 e.wc B) (⟨i,v,e⟩::log)
noncomputable def vcs (P:Program) (tt:c4) (ids:List Nat) (all:List Oper) (i:Nat) (l:List Oper) (K:aQ) (B:aG) (log:List kn) (k:aQ→aG→List kn→Prop):Prop:=
 List.rec (motive:=fun _=>Nat→aQ→aG→List kn→Prop) (fun _ K B log=>k K B log) (fun o l aY i K B log=>CD P tt ids all o l aY i K B log) l i K B log
theorem J' {P:Program} {tt:c4} {ids:List Nat} {all:List Oper} {i:Nat} {o:Oper} {l:List Oper} {K:aQ} {B:aG} {log:List kn} {k:aQ→aG→List kn→Prop}:
 vcs P tt ids all i (o::l) K B log k=CD P tt ids all o l (fun i K B log=>vcs P tt ids all i l K B log k) i K B log:=rfl
inductive om where
 |gf
 |ex (id:Nat)
 |ret
def om.to:om→Exit
 | .gf=>.normal
 | .ex id=>.exit id
 | .ret=>.ret
@[reducible] def nC (r:Option Nat):Fence:={fn:=fun _=>True,depth:=none,alive:=false,round:=r}
@[reducible] def Ctx.at (C:Ctx) (ds:List Nat):Ctx:={C with ds:=ds}
def tL (ids:List Nat):Bool:=ids.contains 0
def aE (P:Program) (N:Nat) (ids:List Nat) (c:Code) (K:aQ) (B:aG) (Q:om→aQ→aG→Prop):Prop:=
 ∀r:Option Nat,(tL ids=false→r=none)→ ∀(C:Ctx) (gJ:Exit→Act→World→Prop),(∀e K' B' ds,(tL ids=true→ds=C.ds)→Q e K' B'→ ∀a w,Sat N ids (C.at ds) K' B' a w→gJ e.to a w)→ ∀a w,Sat N ids C K B a w→c.wpIn (nC r) 0 P gJ a w
def CE (all:List Oper) (o:Oper):List Nat:=(o.op.operands.toList.filterMap fun
 | .tmp t=>some t
 |_=>none)++(match o.guard with
 |some (j,_)=>(Ae all j).toList
 |none=>[])
def pN (o:Oper):List Nat:=(o.after.toList.filter fun e=>Region.binds .any e).map (·.on)
def yj:List Oper→List (List Nat)→List (List Nat)
 | [],acc=>acc
 |o::l,acc=>yj l (acc++[pN o++(pN o).flatMap fun d=>acc.getD d []])
def CF (e:fk):List Nat:=e.wc.map (·.1)
def meets (a b:List Nat):Bool:=a.any fun x=>b.contains x
def yl (c:Nat):List (Nat×Option bF)→Bool
 | []=>false
 |(d,none)::l=>Nat.beq d c||yl c l
 |(d,some ch)::l=>Nat.beq d c||ch.has c||yl c l
def named (n:kn) (c:Nat):Bool:=n.v.has c||yl c n.e.wc
def apart (all:List Oper) (o p:Oper) (n m:kn):Bool:=
 !meets o.dst.toList (CE all p++p.dst.toList)&& !meets p.dst.toList (CE all o)&& !meets (CF n.e) (m.e.rc++CF m.e)&& !meets (CF m.e) n.e.rc&& !n.e.bu.any (named m)&& !m.e.bu.any (named n)
def tM (all:List Oper) (an:List (List Nat)):List (Oper×kn×Nat)→Bool
 | []=>true
 |(o,n,i)::l=>(l.all fun(p,m,j)=>(an.getD j []).contains i&& !m.e.bu.any (named n)||apart all o p n m)&&tM all an l
def indep (K:aQ) (B:aG) (ops:List Oper) (log:List kn):Bool:=
 let es:=log.reverse
 (ops.zipIdx.all fun(o,i)=>(pN o).all fun d=>Nat.blt d i)&&(es.all fun n=>n.e.bu.all fun c=>tI c K&&mS c B)&&tM ops (yj ops []) ((ops.zip es).zipIdx.map fun((o,n),i)=>(o,n,i))
abbrev Ag:=om→aQ→aG→Prop
noncomputable def vc (P:Program) (tt:c4) (N:Nat) (ids:List Nat) (stops:List Nat) (c:Code):aQ→aG→Ag→Prop:=
 Code.rec (motive:=fun _=>aQ→aG→Ag→Prop)
  (fun K B Q=>Q .gf K B)
  (fun id ops draw K B Q=>match stops.contains id with
   |true=>aE P N ids (.region id ops draw) K B Q
   |false=>match draw with
    |false=>vcs P tt ids ops.toList 0 ops.toList K B [] fun K B _=>Q .gf K B
    |true=>vcs P tt ids ops.toList 0 ops.toList K B [] fun K' B' log=>indep K B ops.toList log=true∧Q .gf K' B')
  (fun _ _ va vb K B Q=>va K B fun e K B=>match e with
   | .gf=>vb K B Q
   | .ex i=>Q (.ex i) K B
   | .ret=>Q .ret K B)
  (fun c _ _ Ka Kb K B Q=>match aU K c with
   | .c (.one (.d (.lit true)))=>Ka K B Q
   | .c (.one (.d (.lit false)))=>Kb K B Q
   | .c (.one (.d (.bool b)))=>(b=true→Ka K B Q)∧(b=false→Kb K B Q)
   |_=>False)
  (fun i _ vb K B Q=>vb K B fun e K B=>match e with
   | .ex j=>match Nat.beq j i with
    |true=>Q .gf K B
    |false=>Q (.ex j) K B
   | .gf=>Q .gf K B
   | .ret=>Q .ret K B)
  (fun b _ K B Q=>aE P N ids (.loop b) K B Q)
  (fun f ps x b _ _ K B Q=>aE P N ids (.rangeFunc f ps x b) K B Q)
  (fun i K B Q=>Q (.ex i) K B)
  (fun _ vb K B Q=>vb K B Q)
  (fun _ K B Q=>Q .gf K B)
  (fun _ _ _ _=>False)
  (fun K B Q=>Q .ret K B)
  (fun _ _ _ _=>False) c
section
variable {P:Program} {tt:c4} {N:Nat} {ids stops:List Nat} {K:aQ} {B:aG} {Q:Ag}
theorem Qu {id:Nat} {ops:Array Oper} {draw:Bool}:vc P tt N ids stops (.region id ops draw) K B Q=(match stops.contains id with
 |true=>aE P N ids (.region id ops draw) K B Q
 |false=>match draw with
  |false=>vcs P tt ids ops.toList 0 ops.toList K B [] fun K B _=>Q .gf K B
  |true=>vcs P tt ids ops.toList 0 ops.toList K B [] fun K' B' log=>indep K B ops.toList log=true∧Q .gf K' B'):=rfl
theorem Qv {a b:Code}:vc P tt N ids stops (.seq a b) K B Q=vc P tt N ids stops a K B fun e K B=>match e with
 | .gf=>vc P tt N ids stops b K B Q
 | .ex i=>Q (.ex i) K B
 | .ret=>Q .ret K B:=rfl
theorem Qw {c:Operand} {x y:Code}:vc P tt N ids stops (.cond c x y) K B Q=(match aU K c with
 | .c (.one (.d (.lit true)))=>vc P tt N ids stops x K B Q
 | .c (.one (.d (.lit false)))=>vc P tt N ids stops y K B Q
 | .c (.one (.d (.bool b)))=>(b=true→vc P tt N ids stops x K B Q)∧(b=false→vc P tt N ids stops y K B Q)
 |_=>False):=rfl
theorem Qx {i:Nat} {b:Code}:vc P tt N ids stops (.block i b) K B Q=vc P tt N ids stops b K B fun e K B=>match e with
 | .ex j=>match Nat.beq j i with
  |true=>Q .gf K B
  |false=>Q (.ex j) K B
 | .gf=>Q .gf K B
 | .ret=>Q .ret K B:=rfl
theorem Qy {b:Code}:vc P tt N ids stops (.scope b) K B Q=vc P tt N ids stops b K B Q:=rfl
end
end Go.Proofs.YteoamepgonpdlaaGreat
