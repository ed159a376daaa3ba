/-
A part of the proof of this claim: lemmas, with no condition beyond what each says.
-/
import Derived.Test.YthnboghbhgapcaaGreatZa1
set_option linter.unusedVariables false
set_option linter.unusedSimpArgs false
set_option maxRecDepth 10000
namespace Go.Proofs.YthnboghbhgapcaaGreat
open Go.RowKit
inductive Ol where
 |int (k:IntKind)
 |bool
 |str
 |ptr (e:Nat)
 |b7 (e:Nat)
 |st
 |arr (n e:Nat)
 |mp (k e:Nat)
 |other
structure cb where
 kd:Ol
 size:Nat
 row:Bool
 zero:List bC
 mt:List (Nat×Nat)
 u:Option bx
 bytes:Nat
inductive dd where
 |leaf
 |node (l:dd) (k:Nat) (x:cb) (r:dd)
def dd.find:dd->Nat->Option cb
 | .leaf,_=>none
 | .node l k x r,n=>match Nat.blt n k with
  |true=>l.find n
  |false=>match Nat.beq n k with
   |true=>some x
   |false=>r.find n
def yM (x:D) (k:D->Prop):Prop:=match x with
 | .int i n=>k (.int i n)
 | .lit true=>k (.lit true)
 | .lit false=>k (.lit false)
 | .bool b=>k (.bool b)
 | .str s=>k (.str s)
 | .aM x=>k (.aM x)
 | .dC x=>k (.dC x)
 | .fn x=>k (.fn x)
 | .ck u xs=>k (.ck u xs)
def yN (s:bC) (k:bC->Prop):Prop:=match s with
 | .d x=>yM x fun x=>k (.d x)
 | .ptr c o=>k (.ptr c o)
 | .own c=>k (.own c)
 | .el u x o=>k (.el u x o)
 | .f1 c s i o=>k (.f1 c s i o)
 | .os c s o n=>k (.os c s o n)
 | .mp c=>k (.mp c)
 | .cT f l=>k (.cT f l)
 | .dD=>k .dD
 | .bI v=>k (.bI v)
 | .any=>k .any
def ph (l:List bC) (k:List bC->Prop):Prop:=match l with
 | []=>k []
 |s::l=>yN s fun s=>ph l fun l=>k (s::l)
def wU (x:dI) (k:dI->Prop):Prop:=match x with
 | .one s=>yN s fun s=>k (.one s)
 | .agg l=>ph l fun l=>k (.agg l)
 | .jX u x=>k (.jX u x)
def DZ (l:List dI) (k:List dI->Prop):Prop:=match l with
 | []=>k []
 |s::l=>wU s fun s=>DZ l fun l=>k (s::l)
def oz (x:aQ) (k:aQ->Prop):Prop:=match x with
 | .c x=>wU x fun x=>k (.c x)
 | .ce l=>DZ l fun l=>k (.ce l)
 | .undef=>k .undef
theorem H5 (x:D) (k:D->Prop):yM x k=k x:=by
 cases x with
 |lit b=>cases b <;>rfl
 |_=>rfl
theorem H6 (x:bC) (k:bC->Prop):yN x k=k x:=by
 cases x with
 |d x=>simp only[yN,H5]
 |_=>rfl
theorem yO (l:List bC) (k:List bC->Prop):ph l k=k l:=by
 induction l generalizing k with
 |nil=>rfl
 |cons s l br=>simp only[ph,H6,br]
theorem D0 (x:dI) (k:dI->Prop):wU x k=k x:=by
 cases x with
 |one x=>simp only[wU,H6]
 |agg l=>simp only[wU,yO]
 |jX u x=>rfl
theorem Xz (l:List dI) (k:List dI->Prop):DZ l k=k l:=by
 induction l generalizing k with
 |nil=>rfl
 |cons s l br=>simp only[DZ,D0,br]
theorem rT (x:aQ) (k:aQ->Prop):oz x k=k x:=by
 cases x with
 |c x=>simp only[oz,D0]
 |ce l=>simp only[oz,Xz]
 |undef=>rfl
structure fP where
 ig:List Nat
 bf:List Nat
 hy:List (Nat×Option bd)
abbrev bG:fP:=⟨[],[],[]⟩
def g9:List (Nat×Option bd)->ay->ay
 | [],B=>B
 |(c,none)::l,B=>g9 l (gL B c)
 |(c,some ch)::l,B=>g9 l ((c,ch)::B)
def yP (c:Nat):List Nat->Bool
 | []=>false
 |d::l=>match Nat.beq c d with
  |true=>true
  |false=>yP c l
def tU (ks:List Nat):ay->ay
 | []=>[]
 |(c,ch)::B=>match yP c ks with
  |true=>tU ks B
  |false=>(c,ch)::tU ks B
theorem D1: ∀B:ay,tU [] B=B
 | []=>rfl
 |(c,ch)::B=>congrArg ((c,ch):: ·) (D1 B)
theorem Om (c:Nat) (ks:List Nat): ∀B:ay,tU (c::ks) B=gL (tU ks B) c
 | []=>rfl
 |(d,ch)::B=>by
  have br:=Om c ks B;simp only[tU,yP]
  cases E:Nat.beq d c <;>cases G:yP d ks <;>simp only[gL,E,br]
noncomputable def D2 (ks:List Nat) (B:ay) (k:ay->Prop):Prop:=match ks with
 | []=>k B
 |ks=>List.rec (motive:=fun _=>(ay->Prop)->Prop) (fun k=>k []) (fun p _ br k=>match p with
  |(c,ch)=>match yP c ks with
   |true=>br k
   |false=>br fun l=>k ((c,ch)::l)) B k
theorem On (ks:List Nat) (B:ay) (k:ay->Prop):D2 ks B k=k (tU ks B):=by
 match ks with
 | []=>exact congrArg k (D1 B).symm
 |d::ks=>
  show List.rec (motive:=fun _=>(ay->Prop)->Prop) _ _ B k=_
  induction B generalizing k with
  |nil=>rfl
  |cons p l br=>
   obtain⟨c,ch⟩:=p;simp only[tU]
   cases h:yP c (d::ks)
   .exact br _
   .exact br _
noncomputable def H7 (hy:List (Nat×Option bd)) (ks:List Nat) (B:ay) (k:ay->Prop):Prop:=
 List.rec (motive:=fun _=>List Nat->ay->Prop) (fun ks B=>D2 ks B k) (fun p _ br ks B=>match p with
  |(c,none)=>br (c::ks) B
  |(c,some ch)=>D2 ks B fun B=>br [] ((c,ch)::B)) hy ks B
noncomputable def wV (hy:List (Nat×Option bd)) (B:ay) (k:ay->Prop):Prop:=H7 hy [] B k
theorem XA (hy:List (Nat×Option bd)) (k:ay->Prop): ∀(ks:List Nat) (B:ay),H7 hy ks B k=k (g9 hy (tU ks B)):=by
 induction hy with
 |nil=>exact fun ks B=>On ks B k
 |cons p l br=>
  intro ks B;obtain⟨c,o⟩:=p
  cases o with
  |none=>exact(br (c::ks) B).trans (by rw[Om];rfl)
  |some ch=>
   show D2 ks B (fun B=>H7 l [] ((c,ch)::B) k)=_;rw[On,br,D1];rfl
theorem H8 (hy:List (Nat×Option bd)) (B:ay) (k:ay->Prop):wV hy B k=k (g9 hy B):=(XA hy k [] B).trans (by rw[D1])
def tV (c:Nat):a1->Bool
 | []=>true
 |(_,v)::K=> !v.has c&&tV c K
def kh (c:Nat):ay->Bool
 | []=>true
 |(d,ch)::B=> !Nat.beq d c&& !ch.has c&&kh c B
def gW (ids:List Nat) (K:a1) (B:ay) (c:Nat):Bool:=tV c K&&kh c B&& !ids.contains c
abbrev kH (s:bC):aQ:=.c (.one s)
abbrev ae (n:Int):aQ:=.c (.one (.d (.int .i64 n)))
abbrev fI (b:Bool):aQ:=.c (.one (.d (.bool b)))
abbrev qT (b:Bool):aQ:=.c (.one (.d (.lit b)))
abbrev bV (s:List UInt8):aQ:=.c (.one (.d (.str s)))
abbrev bS (u:bx) (xs:List (Z u)):aQ:=.c (.one (.d (.ck u xs)))
abbrev ao (c:Nat):aQ:=.c (.one (.ptr c 0))
abbrev eM (c:Nat):aQ:=.c (.one (.own c))
def bC.ok:bC->Bool
 | .any=>false
 | .bI (.agg _)=>false
 | .bI (.tuple _)=>false
 |_=>true
def D3:List bC->Bool
 | []=>true
 |s::l=>s.ok&&D3 l
def vr:aQ->Option (List bC)
 | .c (.one s)=>match s.ok with
  |true=>some [s]
  |false=>none
 | .c (.agg l)=>match D3 l with
  |true=>some l
  |false=>none
 |_=>none
def A2 (l:List bC) (o:Nat) (cs:List bC):List bC:=l.take o++cs++l.drop (o+cs.length)
def vs (K:a1) (mt:Nat->Option (Nat×Nat)):List (Nat×Operand)->List bC->Option (List bC)
 | [],l=>some l
 |(i,x)::bE,l=>match mt i,vr (a7 K x) with
  |some (o,n),some cs=>match Nat.beq cs.length n,Nat.ble (o+n) l.length with
   |true,true=>vs K mt bE (A2 l o cs)
   |_,_=>none
  |_,_=>none
def qU:(u v:bx)->Option (PLift (u=v))
 | .int .i64,.int .i64=>some ⟨rfl⟩
 | .int .u8,.int .u8=>some ⟨rfl⟩
 | .int .u16,.int .u16=>some ⟨rfl⟩
 | .int .u32,.int .u32=>some ⟨rfl⟩
 | .int .u64,.int .u64=>some ⟨rfl⟩
 | .int .i32,.int .i32=>some ⟨rfl⟩
 | .u8,.u8=>some ⟨rfl⟩
 | .bool,.bool=>some ⟨rfl⟩
 | .str,.str=>some ⟨rfl⟩
 | .aM,.aM=>some ⟨rfl⟩
 | .dC,.dC=>some ⟨rfl⟩
 | .fn,.fn=>some ⟨rfl⟩
 | .b7 u,.b7 v=>match qU u v with
  |some ⟨h⟩=>some ⟨congrArg bx.b7 h⟩
  |none=>none
 | .bR u sY,.bR v cU=>match qU u v,qU sY cU with
  |some ⟨h⟩,some ⟨h'⟩=>some ⟨h▸h'▸rfl⟩
  |_,_=>none
 | .arr n u,.arr m v=>match qU u v with
  |some ⟨h⟩=>if hn:n=m then some ⟨hn▸h▸rfl⟩ else none
  |none=>none
 |_,_=>none
def l0:IntKind->IntKind->Bool
 | .i64,.i64=>true
 | .u8,.u8=>true
 | .u16,.u16=>true
 | .u32,.u32=>true
 | .u64,.u64=>true
 | .i32,.i32=>true
 | .i16,.i16=>true
 | .i8,.i8=>true
 |_,_=>false
def nD {u v:bx} (h:u=v) (xs:List (Z u)):List (Z v):=match v,h with
 |_,rfl=>xs
def H9 {u v:bx} (h:u=v) (x:Z u):Z v:=match v,h with
 |_,rfl=>x
def H' (x y:D):Prop:=match x,y with
 | .int k a,.int dU b=>match l0 k dU with
  |true=>a=b
  |false=>False
 | .str a,.str b=>a=b
 | .aM a,.aM b=>a=b
 | .dC a,.dC b=>a=b
 | .fn a,.fn b=>a=b
 | .bool a,.bool b=>a=b
 | .lit a,.lit b=>a=b
 | .lit a,.bool b=>a=b
 | .ck u xs,.ck v ys=>match qU u v with
  |some ⟨h⟩=>nD h xs=ys
  |none=>False
 |_,_=>False
def D4 (s t:bC):Prop:=match t,s with
 | .any,_=>True
 | .d y,.d x=>H' x y
 | .d (.ck u ys),.dD=>ys=[]
 |t,s=>s=t
def D5:List bC->List bC->Prop
 | [],[]=>True
 |s::l,t::m=>D4 s t/\D5 l m
 |_,_=>False
def D6 (s t:dI):Prop:=match s,t with
 | .one s,.one t=>D4 s t
 | .agg l,.agg m=>D5 l m
 | .agg _,.one .any=>True
 | .jX u x,.jX v y=>match qU u v with
  |some ⟨h⟩=>H9 h x=y
  |none=>False
 | .jX _ _,.one .any=>True
 |_,_=>False
def Ia:List dI->List dI->Prop
 | [],[]=>True
 |s::l,t::m=>D6 s t/\Ia l m
 |_,_=>False
def sZ (s t:aQ):Prop:=match s,t with
 | .c s,.c t=>D6 s t
 | .ce l,.ce m=>Ia l m
 | .undef,.undef=>True
 |_,.c (.one .any)=>True
 |_,_=>False
def D7:List aQ->List aQ->Prop
 | [],[]=>True
 |s::l,t::m=>sZ s t/\D7 l m
 |_,_=>False
def Ib:Option Prop->Option Prop->Option Prop
 |none,q=>q
 |some p,none=>some p
 |some p,some q=>some (p/\q)
def tW:Option Prop->Prop
 |none=>True
 |some p=>p
def Ic (k:IntKind):List bC->Option (Int×List bC×Option Prop)
 | .d (.int dU n)::l=>match l0 dU k with
  |true=>some (n,l,none)
  |false=>none
 |_=>none
def Id:List bC->Option (UInt8×List bC×Option Prop)
 | .d (.int dU n)::l=>match l0 dU .u8 with
  |true=>some (UInt8.ofNat n.toNat,l,some (0<=n/\n < 256))
  |false=>none
 |_=>none
def Ie:List bC->Option (Bool×List bC×Option Prop)
 | .d (.lit b)::l=>some (b,l,none)
 | .d (.bool b)::l=>some (b,l,none)
 |_=>none
def If:List bC->Option (List UInt8×List bC×Option Prop)
 | .d (.str s)::l=>some (s,l,none)
 |_=>none
def Ig:List bC->Option (Option Nat×List bC×Option Prop)
 | .d (.aM x)::l=>some (x,l,none)
 | .bI (.pointer none)::l=>some (none,l,none)
 |_=>none
def Ih:List bC->Option (Option (Nat×Nat×Nat)×List bC×Option Prop)
 | .d (.dC x)::l=>some (x,l,none)
 | .dD::l=>some (none,l,none)
 |_=>none
def A3:List kF->Option (List Nat)
 | []=>some []
 | .d (.aM (some b))::l=>match A3 l with
  |some r=>some (b::r)
  |none=>none
 |_=>none
def Ii:List bC->Option ((Nat×List Nat)×List bC×Option Prop)
 | .d (.fn x)::l=>some (x,l,none)
 | .cT f m::l=>match A3 m with
  |some bs=>some ((f,bs),l,none)
  |none=>none
 |_=>none
def Ij (u:bx):List bC->Option (List (Z u)×List bC×Option Prop)
 | .dD::l=>some ([],l,none)
 | .d (.ck v xs)::l=>match qU v u with
  |some ⟨h⟩=>some (nD h xs,l,none)
  |none=>none
 |_=>none
def nE:(u:bx)->List bC->Option (Z u×List bC×Option Prop)
 | .int k,l=>Ic k l
 | .u8,l=>Id l
 | .bool,l=>Ie l
 | .str,l=>If l
 | .aM,l=>Ig l
 | .dC,l=>Ih l
 | .fn,l=>Ii l
 | .b7 u,l=>Ij u l
 | .bR u v,l=>match nE u l with
  |some (x,l,p)=>match nE v l with
   |some (y,l,q)=>some ((x,y),l,Ib p q)
   |none=>none
  |none=>none
 | .arr _ _,_=>none
def wW (u:bx):Nat->List bC->Option (List (Z u)×Option Prop)
 |0,[]=>some ([],none)
 |0,_=>none
 |n+1,l=>match nE u l with
  |some (x,l,p)=>match wW u n l with
   |some (xs,q)=>some (x::xs,Ib p q)
   |none=>none
  |none=>none
def D8 (n:Nat) (l:List bC):List bC:=match n with
 |0=>[]
 |n+1=>l++D8 n l
def gh (u:bx) (x:Z u) (o:Nat):Nat->List bC
 |0=>[]
 |n+1=>.d (fA u x o)::gh u x (o+1) n
def tX (k:IntKind) (n:Int):Prop:=match k with
 | .i64=> -9223372036854775808<=n/\n<=9223372036854775807
 | .u8=>0<=n/\n < 256
 | .u16=>0<=n/\n < 65536
 | .u32=>0<=n/\n < 4294967296
 | .u64=>0<=n/\n < 18446744073709551616
 | .i32=> -2147483648<=n/\n<=2147483647
 | .i16=> -32768<=n/\n<=32767
 | .i8=> -128<=n/\n<=127
def jl (P:Program) (f:FuncId):Bool:=match P.funcs[f]? with
 |some fn=> !(fn.name == "runtime.NumGoroutine" ||fn.body.isNone)
 |none=>false
def Fn (P:Program) (f:FuncId) (args:List aQ) (aK:ay) (bf:List Nat) (res:aQ) (aP:ay):Prop:=
 jl P f=true/\ ∀(ρ:Nat->bo) (F:Nat->Nat->Prop) (I:Nat->Prop) (w:World) (bW:List Value),
  (∀b,I b->b < w.heap.size)->(∀c ch,ah aK c=some ch->Holds ρ I (F c) w (ρ c) ch)->(∀c ch,ah aK c=some ch-> ∀b,F c b->b < w.heap.size/\ ¬I b)->
  (∀c bX ch ch' b,ah aK c=some ch->ah aK bX=some ch'->c≠bX->F c b-> ¬F bX b)->
  bW.length=args.length->(∀(i:Nat) (v:aQ) (x:Value),args[i]? =some v->bW[i]? =some x->ct ρ I w v x)->
  Calls P f bW.toArray w fun e w'=> ∃(x:Value) (ρ':Nat->bo) (F':Nat->Nat->Prop),e= .returned x/\cJ (fun b=> ∃c ch,ah aK c=some ch/\F c b) w w'/\(∀c,c∉bf->ρ' c=ρ c)/\
   ∃I':Nat->Prop,cd I w I' w'/\(∀b,I' b->b < w'.heap.size/\(I b\/(∃c ch,ah aK c=some ch/\F c b)\/w.heap.size<=b))/\
   (∀c ch,ah aP c=some ch->Holds ρ' I' (F' c) w' (ρ' c) ch)/\
   (∀c ch,ah aP c=some ch-> ∀b,F' c b->b < w'.heap.size/\ ¬I' b/\((∃gV cw,ah aK gV=some cw/\F gV b)\/w.heap.size<=b))/\
   (∀c bX ch ch' b,ah aP c=some ch->ah aP bX=some ch'->c≠bX->F' c b-> ¬F' bX b)/\ct ρ' I' w' res x
def kI (B:ay):ay->Prop
 | []=>True
 |(c,ch)::l=>ah B c=some ch/\kI B l
def cl:ay->List Nat
 | []=>[]
 |(c,_)::l=>c::cl l
def Ik:ay->List (Nat×Option bd)
 | []=>[]
 |(c,ch)::l=>(c,some ch)::Ik l
def iy:ay->ay->List (Nat×Option bd)
 | [],m=>Ik m
 |(c,_)::l,m=>(c,none)::iy l m
def mv (aK:ay) (bf:List Nat):ay->Bool
 | []=>true
 |(c,_)::l=>((cl aK).contains c||bf.contains c)&& !(cl l).contains c&&mv aK bf l
def rU (ids:List Nat) (K:a1) (B:ay):List Nat->Bool
 | []=>true
 |c::l=>gW ids K B c&& !l.contains c&&rU ids K B l
def wX (P:Program) (f:FuncId) (args:List aQ) (ids:List Nat) (K:a1) (B:ay) (k:aQ->fP->Prop):Prop:=
 ∃aK bf res aP,Fn P f args aK bf res aP/\kI B aK/\(rU ids K B bf&&mv aK bf aP)=true/\oz res fun r=>k r ⟨cl aK,bf,iy aK aP⟩
def nF (k:IntKind) (n:Int) (q:Prop):Prop:=match k with
 | .i64=>(-9223372036854775808<=n/\n<=9223372036854775807)/\q
 | .u8=>(0<=n/\n < 256)/\q
 | .u16=>(0<=n/\n < 65536)/\q
 | .u32=>(0<=n/\n < 4294967296)/\q
 | .u64=>(0<=n/\n < 18446744073709551616)/\q
 | .i32=>(-2147483648<=n/\n<=2147483647)/\q
 | .i16=>(-32768<=n/\n<=32767)/\q
 | .i8=>(-128<=n/\n<=127)/\q
theorem wY {k:IntKind} {n:Int} {q:Prop} (h:nF k n q):tX k n/\q:=by cases k <;>exact h
def wZ:List aQ->Option (List kF)
 | []=>some []
 | .c (.one (.ptr c o))::l=>match wZ l with
  |some r=>some (.p c o::r)
  |none=>none
 | .c (.one (.d x))::l=>match wZ l with
  |some r=>some (.d x::r)
  |none=>none
 |_=>none
def tY:List Nat->List aQ
 | []=>[]
 |b::l=>.c (.one (.d (.aM (some b))))::tY l
def oA:List kF->List aQ
 | []=>[]
 | .p c o::l=>.c (.one (.ptr c o))::oA l
 | .d x::l=>.c (.one (.d x))::oA l
def D9 (op:BinOp) (x y:aQ) (k:aQ->fP->Prop):Prop:=match x,y with
 | .c (.one (.d (.int i a))),.c (.one (.d (.int j b)))=>match l0 i j,op with
  |true,.add=>nF i (a+b) (k (.c (.one (.d (.int i (a+b))))) bG)
  |true,.sub=>nF i (a - b) (k (.c (.one (.d (.int i (a - b))))) bG)
  |true,.mul=>nF i (a*b) (k (.c (.one (.d (.int i (a*b))))) bG)
  |true,.quo=>(0<=a/\0 < b)/\nF i (a/b) (k (.c (.one (.d (.int i (a/b))))) bG)
  |true,.rem=>(0<=a/\0 < b)/\nF i (a % b) (k (.c (.one (.d (.int i (a % b))))) bG)
  |_,.shl=>match l0 i .i64 with
   |true=>(0<=a/\0<=b/\b<=64)/\nF i (a*(2 ^b.toNat:Nat)) (k (.c (.one (.d (.int i (a*(2 ^b.toNat:Nat)))))) bG)
   |false=>False
  |_,.shr=>match l0 i .i64 with
   |true=>(0<=a/\0<=b/\b<=64)/\k (.c (.one (.d (.int i (a/(2 ^b.toNat:Nat)))))) bG
   |false=>False
  |true,.or=>match l0 i .i64 with
   |true=>(0<=a/\a<=9223372036854775807/\0<=b/\b<=9223372036854775807)/\k (.c (.one (.d (.int i ((a.toNat ||| b.toNat:Nat):Int))))) bG
   |false=>False
  |true,.eql=>k (.c (.one (.d (.bool (decide (a=b)))))) bG
  |true,.neq=>k (.c (.one (.d (.bool (!decide (a=b)))))) bG
  |true,.lss=>k (.c (.one (.d (.bool (decide (a < b)))))) bG
  |true,.leq=>k (.c (.one (.d (.bool (decide (a<=b)))))) bG
  |true,.gtr=>k (.c (.one (.d (.bool (decide (b < a)))))) bG
  |true,.geq=>k (.c (.one (.d (.bool (decide (b<=a)))))) bG
  |_,_=>False
 | .c (.one (.d (.str a))),.c (.one (.d (.str b)))=>match op with
  | .add=>a.length+b.length<=4294967296/\k (.c (.one (.d (.str (a++b))))) bG
  | .eql=>k (.c (.one (.d (.bool (decide (a=b)))))) bG
  | .neq=>k (.c (.one (.d (.bool (!decide (a=b)))))) bG
  | .lss=>k (.c (.one (.d (.bool (Op.bytesLess a b))))) bG
  | .leq=>k (.c (.one (.d (.bool (Op.bytesLess a b||decide (a=b)))))) bG
  | .gtr=>k (.c (.one (.d (.bool (!(Op.bytesLess a b||decide (a=b))))))) bG
  | .geq=>k (.c (.one (.d (.bool (!Op.bytesLess a b))))) bG
  |_=>False
 | .c (.one (.ptr _ _)),.c (.one (.bI (.pointer none)))=>match op with
  | .eql=>k (.c (.one (.d (.lit false)))) bG
  | .neq=>k (.c (.one (.d (.lit true)))) bG
  |_=>False
 | .c (.one (.bI (.pointer none))),.c (.one (.bI (.pointer none)))=>match op with
  | .eql=>k (.c (.one (.d (.lit true)))) bG
  | .neq=>k (.c (.one (.d (.lit false)))) bG
  |_=>False
 |_,_=>False
def Il (aU:dd) (T:Nat):Bool:=match aU.find T with
 |some ti=>match ti.kd with
  | .ptr _=>true
  |_=>false
 |none=>false
def yQ (aU:dd) (T:Nat):Bool:=match aU.find T with
 |some ti=>match ti.kd with
  | .ptr e=>match aU.find e with
   |some _=>true
   |none=>false
  |_=>false
 |none=>false
def D' (aU:dd) (T:Nat) (x:Option Nat) (y:aQ) (k:Bool->Prop):Prop:=match y with
 | .c (.one (.bI (.pointer none)))=>(∀b,x=some b->k false)/\(x=none->k true)
 | .c (.one (.d (.aM y)))=>match yQ aU T with
  |true=>x=y/\k true
  |false=>False
 |_=>False
def Ea (aU:dd) (T:Nat) (op:BinOp) (x y:aQ) (k:aQ->fP->Prop):Prop:=match x with
 | .c (.one (.d (.aM x)))=>match op with
  | .eql=>D' aU T x y fun b=>k (.c (.one (.d (.lit b)))) bG
  | .neq=>D' aU T x y fun b=>k (.c (.one (.d (.lit !b)))) bG
  |_=>False
 |x=>D9 op x y k
def Eb (aU:dd) (T:Nat):Bool:=match aU.find T with
 |some ti=>match ti.kd with
  | .bool=>true
  |_=>false
 |none=>false
def Ec (op:BinOp) (a:Bool) (y:aQ) (k:aQ->fP->Prop):Prop:=match op,y with
 | .eql,.c (.one (.d (.bool b)))=>k (.c (.one (.d (.bool (a == b))))) bG
 | .eql,.c (.one (.d (.lit b)))=>k (.c (.one (.d (.bool (a == b))))) bG
 | .neq,.c (.one (.d (.bool b)))=>k (.c (.one (.d (.bool (!(a == b)))))) bG
 | .neq,.c (.one (.d (.lit b)))=>k (.c (.one (.d (.bool (!(a == b)))))) bG
 |_,_=>False
def Im (aU:dd) (T f:Nat):Option (Nat×Nat):=match aU.find T with
 |some ti=>match ti.kd with
  | .st=>ti.mt[f]?
  |_=>none
 |none=>none
def elemOf (aU:dd) (T:Nat):Option (Nat×cb):=match aU.find T with
 |some ti=>match ti.kd with
  | .b7 e=>match aU.find e with
   |some te=>some (e,te)
   |none=>none
  |_=>none
 |none=>none
def w0 (aU:dd) (T:Nat):Bool:=match aU.find T with
 |some ti=>match ti.kd with
  | .str=>true
  |_=>false
 |none=>false
def w1 (aU:dd) (T:Nat):Option (Nat×Nat):=match aU.find T with
 |some ti=>match ti.kd with
  | .mp k e=>some (k,e)
  |_=>none
 |none=>none
def In (aU:dd) (T:Nat) (B:ay) (x:aQ):Option (Nat×List Nat):=match x with
 | .c (.one (.d (.str s)))=>match w0 aU T with
  |true=>some (s.length,[])
  |false=>none
 | .c (.one (.d (.ck _ xs)))=>match elemOf aU T with
  |some _=>some (xs.length,[])
  |none=>none
 | .c (.one .dD)=>match elemOf aU T with
  |some _=>some (0,[])
  |none=>none
 | .c (.one (.own c))=>match elemOf aU T with
  |some _=>match ah B c with
   |some (.row _ _ xs)=>some (xs.length,[c])
   |_=>none
  |none=>none
 | .c (.one (.mp c))=>match w1 aU T with
  |some _=>match ah B c with
   |some (.map _ _ es)=>some (es.length,[c])
   |_=>none
  |none=>none
 |_=>none
def qV (aU:dd) (e:Nat):Bool:=match aU.find e with
 |some te=>match te.kd,te.zero,te.size,te.bytes with
  | .int .u8,[.d (.int .u8 0)],1,1=>true
  |_,_,_,_=>false
 |none=>false
def Io (aU:dd) (S T:Nat) (x:aQ) (B:ay) (k:aQ->fP->Prop):Prop:=match aU.find S,aU.find T with
 |some Oo,some ti=>match Oo.kd,ti.kd,x with
  | .int i,.int j,.c (.one (.d (.int _ n)))=>match l0 j .u8,l0 i .u8 with
   |true,false=>k (.c (.one (.d (.int j (n % 256))))) bG
   |_,_=>nF j n (k (.c (.one (.d (.int j n)))) bG)
  | .str,.b7 e,.c (.one (.d (.str s)))=>match qV aU e with
   |true=>s.length<=4294967296/\k (.c (.one (.d (.ck .u8 s)))) bG
   |false=>False
  | .b7 e,.str,.c (.one (.d (.ck .u8 s)))=>match qV aU e with
   |true=>k (.c (.one (.d (.str s)))) bG
   |false=>False
  | .b7 e,.str,.c (.one .dD)=>match qV aU e with
   |true=>k (.c (.one (.d (.str [])))) bG
   |false=>False
  | .b7 e,.str,.c (.one (.own c))=>match ah B c,qV aU e with
   |some (.row _ .u8 s),true=>k (.c (.one (.d (.str s)))) ⟨[c],[],[]⟩
   |_,_=>False
  |_,_,_=>False
 |_,_=>False
def yR (n:Nat) (hl aI:Option aQ):Option (Nat×Nat×Prop):=match hl,aI with
 |none,some (.c (.one (.d (.int .i64 j))))=>some (0,j.toNat,0<=j/\j<=n)
 |some (.c (.one (.d (.int .i64 i)))),none=>some (i.toNat,n,0<=i/\i<=n)
 |some (.c (.one (.d (.int .i64 i)))),some (.c (.one (.d (.int .i64 j))))=>some (i.toNat,j.toNat,0<=i/\i<=j/\j<=n)
 |none,none=>some (0,n,True)
 |_,_=>none
def Ip (aU:dd) (T:Nat) (x:aQ) (hl aI:Option aQ) (k:aQ->fP->Prop):Prop:=match x with
 | .c (.one (.d (.str s)))=>match w0 aU T,yR s.length hl aI with
  |true,some (l,h,p)=>p/\k (.c (.one (.d (.str ((s.take h).drop l))))) bG
  |_,_=>False
 | .c (.one (.d (.ck u xs)))=>match elemOf aU T,yR xs.length hl aI with
  |some (_,te),some (l,h,p)=>match Nat.beq te.size (aS u) with
   |true=>p/\k (.c (.one (.d (.ck u ((xs.take h).drop l))))) bG
   |false=>False
  |_,_=>False
 |_=>False
def Iq (aU:dd) (T:Nat) (x y:aQ) (dst:Option Nat) (ids:List Nat) (K:a1) (B:ay) (k:aQ->fP->Prop):Prop:=match elemOf aU T,dst with
 |some (e,te),some d=>match te.u,y with
  |some u,.c (.one (.d (.ck v ys)))=>match qU v u with
   |some ⟨h⟩=>match x with
    | .c (.one .dD)=>ys.length<=4294967296/\gW ids K B d=true/\k (.c (.one (.own d))) ⟨[],[d],[(d,some (.row e u (nD h ys)))]⟩
    | .c (.one (.own c))=>match ah B c with
     |some (.row b5 sY xs)=>match Nat.beq b5 e,qU sY u with
      |true,some ⟨h'⟩=>xs.length+ys.length<=4294967296/\gW ids K B d=true/\k (.c (.one (.own d))) ⟨[c],[d],[(c,none),(d,some (.row e u (nD h' xs++nD h ys)))]⟩
      |_,_=>False
     |_=>False
    |_=>False
   |none=>False
  |some u,.c (.one (.own cL))=>match x with
   | .c (.one (.own c))=>match ah B c,ah B cL with
    |some (.row b5 sY xs),some (.row ap v ys)=>match Nat.beq c cL,Nat.beq b5 e,qU v u,qU sY u with
     |false,true,some ⟨h⟩,some ⟨h'⟩=>xs.length+ys.length<=4294967296/\gW ids K B d=true/\k (.c (.one (.own d))) ⟨[c,cL],[d],[(c,none),(d,some (.row e u (nD h' xs++nD h ys)))]⟩
     |_,_,_,_=>False
    |_,_=>False
   |_=>False
  |_,_=>False
 |_,_=>False
def Ir (aU:dd) (T eT:Nat) (x y:aQ) (dst:Option Nat) (ids:List Nat) (K:a1) (B:ay) (k:aQ->fP->Prop):Prop:=match elemOf aU T,w0 aU eT,dst with
 |some (e,te),true,some d=>match x,y with
  | .c (.one (.own c)),.c (.one (.d (.str s)))=>match qV aU e,ah B c with
   |true,some (.row b5 .u8 xs)=>match Nat.beq b5 e with
    |true=>List.length (α:=UInt8) xs+s.length<=4294967296/\gW ids K B d=true/\k (.c (.one (.own d))) ⟨[c],[d],[(c,none),(d,some (.row e .u8 (List.append (α:=UInt8) xs s)))]⟩
    |false=>False
   |_,_=>False
  |_,_=>False
 |_,_,_=>False
def w2:(aJ:bx)->aQ->Option (Z aJ)
 | .int k,.c (.one (.d (.int dU n)))=>match l0 dU k with
  |true=>some n
  |false=>none
 | .str,.c (.one (.d (.str s)))=>some s
 |_,_=>none
def yS:(u:bx)->Z u->dI
 | .bR u v,x=>.agg (gh (.bR u v) x 0 (aS (.bR u v)))
 | .arr n u,x=>.agg (gh (.arr n u) x 0 (aS (.arr n u)))
 | .int k,x=>.one (.d (fA (.int k) x 0))
 | .u8,x=>.one (.d (fA .u8 x 0))
 | .bool,x=>.one (.d (fA .bool x 0))
 | .str,x=>.one (.d (fA .str x 0))
 | .aM,x=>.one (.d (fA .aM x 0))
 | .dC,x=>.one (.d (fA .dC x 0))
 | .fn,x=>.one (.d (fA .fn x 0))
 | .b7 u,x=>.one (.d (fA (.b7 u) x 0))
def Ed:bC->D->Bool
 | .d (.int k n),.int dU m=>l0 k dU&&decide (n=m)
 | .d (.str []),.str []=>true
 | .bI (.pointer none),.aM none=>true
 | .dD,.dC none=>true
 | .d (.lit b),.bool c=>b == c
 | .dD,.ck _ []=>true
 |_,_=>false
def iz:List bC->List bC->Bool
 | [],[]=>true
 |s::l,.d x::m=>Ed s x&&iz l m
 |_,_=>false
def w3 (aU:dd) (kt:Nat) (aJ:bx):Bool:=match aU.find kt with
 |some ti=>match ti.kd,aJ with
  | .int k,.int dU=>l0 k dU
  | .str,.str=>true
  |_,_=>false
 |none=>false
def Ee (aU:dd) (et:Nat) (aL:bx):Bool:=match aU.find et with
 |some ti=>iz ti.zero (gh aL (cK aL) 0 (aS aL))&&(ti.row == !mW aL)&&(mW aL||Nat.ble 2 (aS aL))
 |none=>false
def Is (aU:dd) (T:Nat) (x i:aQ) (ok:Bool) (B:ay) (k:aQ->fP->Prop):Prop:=match x with
 | .c (.one (.mp c))=>match ah B c with
  |some (.map aJ aL es)=>match w1 aU T,w2 aJ i with
   |some (kt,et),some key=>match w3 aU kt aJ&&Ee aU et aL,ok with
    |true,true=>wU (yS aL ((b0 es key).getD (cK aL))) fun x=>k (.ce [x,.one (.d (.bool (b0 es key).isSome))]) ⟨[c],[],[]⟩
    |true,false=>wU (yS aL ((b0 es key).getD (cK aL))) fun x=>k (.c x) ⟨[c],[],[]⟩
    |false,_=>False
   |_,_=>False
  |_=>False
 |_=>False
def It (u:bx) (x:aQ):Option (Z u×Option Prop):=match x with
 | .c (.jX v y)=>match qU v u,mW u with
  |some ⟨h⟩,false=>some (H9 h y,none)
  |_,_=>none
 | .c (.one s)=>match mW u,nE u [s] with
  |true,some (y,[],p)=>some (y,p)
  |_,_=>none
 | .c (.agg l)=>match mW u,nE u l with
  |false,some (y,[],p)=>some (y,p)
  |_,_=>none
 |_=>none
def Iu (aU:dd) (T:Nat) (x i v:aQ) (B:ay) (k:aQ->fP->Prop):Prop:=match x with
 | .c (.one (.mp c))=>match ah B c with
  |some (.map aJ aL es)=>match w1 aU T,w2 aJ i with
   |some (kt,et),some key=>match w3 aU kt aJ,It aL v with
    |true,some (y,p)=>tW p/\k .undef ⟨[c],[],[(c,some (.map aJ aL (dr es key y)))]⟩
    |true,none=>match v,mW aL with
     | .c (.agg l),false=> ∃y:Z aL,(ow aL y/\l=gh aL y 0 (aS aL))/\k .undef ⟨[c],[],[(c,some (.map aJ aL (dr es key y)))]⟩
     |_,_=>False
    |false,_=>False
   |_,_=>False
  |_=>False
 |_=>False
def Iv (aU:dd) (T:Nat) (x i:aQ) (B:ay) (k:aQ->fP->Prop):Prop:=match x with
 | .c (.one (.mp c))=>match ah B c with
  |some (.map aJ aL es)=>match w1 aU T,w2 aJ i with
   |some (kt,et),some key=>match w3 aU kt aJ with
    |true=>k (.ce []) ⟨[c],[],[(c,some (.map aJ aL (gG es key)))]⟩
    |false=>False
   |_,_=>False
  |_=>False
 |_=>False
def Iw (aU:dd) (T:Nat) (dst:Option Nat) (ids:List Nat) (K:a1) (B:ay) (k:aQ->fP->Prop):Prop:=match w1 aU T,dst with
 |some (kt,et),some d=>match aU.find kt,aU.find et with
  |some Oq,some vt=>match Oq.u,vt.u with
   |some aJ,some aL=>gW ids K B d=true/\k (.c (.one (.mp d))) ⟨[],[d],[(d,some (.map aJ aL []))]⟩
   |_,_=>False
  |_,_=>False
 |_,_=>False
def Ix (aU:dd) (T c:Nat) (B:ay) (k:aQ->fP->Prop):Prop:=match aU.find T with
 |some ti=>match ti.kd,ti.u with
  | .arr n e,some (.arr m v)=>match Nat.beq n m&&Nat.ble n 1000000&&Nat.blt 0 n,aU.find e,ah B c with
   |true,some _,some (.cells l)=> ∃ys:List (Z v),(ow (.arr n v) ys/\l=gh (.arr n v) ys 0 (aS (.arr n v)))/\k (.c (.one (.d (.ck v ys)))) ⟨[c],[],[(c,none)]⟩
   |_,_,_=>False
  |_,_=>False
 |none=>False
def Iy (aU:dd) (T:Nat) (x:aQ) (k:aQ->fP->Prop):Prop:=match aU.find T,x with
 |some ti,.c (.one (.d (.ck v xs)))=>match ti.kd with
  | .arr n _=>(0 < n/\n<=List.length xs)/\k (.c (.one (.el (.arr n v) (List.take n xs) 0))) bG
  |_=>False
 |_,_=>False
def bB (P:Program) (N:Nat) (ids:List Nat) (o:Oper) (K:a1) (B:ay) (v:aQ) (e:fP):Prop:=
 ∀(K':a1) (B':ay),(∀x,x∈o.op.operands->a7 K' x=a7 K x)->(∀c,c∈e.ig->ah B' c=ah B c)->(∀c,c∈e.bf->gW ids K' B' c=true)->
  ∀(C:e8) (a:Act) (w:World),eX N ids C K' B' a w->(∀d,o.dst=some d->d < N)-> ∀(fC:Act->World->Prop) (Q:Exit->Act->World->Prop),
   (∀a' w',eX N ids C (ms o.dst v K') (g9 e.hy B') a' w'->fC a' w')->o.wp P a w fC Q
def laid (xs:List UInt8) (off n:Nat) (ys:List UInt8):List UInt8:=xs.take off++ys.take n++xs.drop (off+(ys.take n).length)
def Ef (c off n:Nat) (ys:List UInt8) (B:ay) (k:aQ->fP->Prop):Prop:=match ah B c with
 |some (.row e .u8 xs)=>off+n<=xs.length/\k (.c (.one .any)) ⟨[c],[],[(c,some (.row e .u8 (laid xs off n ys)))]⟩
 |_=>False
def Iz (aU:dd) (T:Nat) (x y:aQ) (B:ay) (k:aQ->fP->Prop):Prop:=match elemOf aU T with
 |some (e,_)=>match qV aU e,y with
  |true,.c (.one (.d (.ck .u8 ys)))=>match x with
   | .c (.one (.own c))=>match ah B c with
    |some (.row _ .u8 xs)=>Ef c 0 (List.length xs) ys B k
    |_=>False
   | .c (.one (.os c s off n))=>match Nat.beq s 1 with
    |true=>Ef c off n ys B k
    |false=>False
   |_=>False
  |_,_=>False
 |none=>False
def Eg (P:Program) (ids:List Nat) (o:Oper) (K:a1) (B:ay) (k:aQ->fP->Prop):Prop:=
 ∃v e,(∀N,bB P N ids o K B v e)/\rU ids K B e.bf=true/\oz v fun v=>k v e
def IA (P:Program) (aU:dd) (ids:List Nat) (o:Oper) (K:a1) (B:ay) (k:aQ->fP->Prop):Prop:=match o.op with
 | .move x=>oz (a7 K x) fun v=>k v bG
 | .assign x=>oz (a7 K x) fun v=>k v bG
 | .pick c x y=>match a7 K c with
  | .c (.one (.d (.lit true)))=>oz (a7 K x) fun v=>k v bG
  | .c (.one (.d (.lit false)))=>oz (a7 K y) fun v=>k v bG
  |_=>False
 | .binOp op T x y _=>match op,Il aU T with
  | .eql,true=>Ea aU T .eql (a7 K x) (a7 K y) k
  | .neq,true=>Ea aU T .neq (a7 K x) (a7 K y) k
  |op,false=>match a7 K x with
   | .c (.one (.ptr _ _))=>False
   | .c (.one (.bI _))=>False
   | .c (.one (.d (.bool a)))=>match Eb aU T with
    |true=>Ec op a (a7 K y) k
    |false=>False
   | .c (.one (.d (.lit a)))=>match Eb aU T with
    |true=>Ec op a (a7 K y) k
    |false=>False
   |_=>D9 op (a7 K x) (a7 K y) k
  |_,_=>False
 | .unOp .not _ x=>match a7 K x with
  | .c (.one (.d (.lit true)))=>k (.c (.one (.d (.lit false)))) bG
  | .c (.one (.d (.lit false)))=>k (.c (.one (.d (.lit true)))) bG
  | .c (.one (.d (.bool b)))=>k (.c (.one (.d (.bool (!b))))) bG
  |_=>False
 | .extract x i=>match a7 K x with
  | .ce l=>match l[i]? with
   |some v=>k (.c v) bG
   |none=>False
  |_=>False
 | .nilCheck x=>match a7 K x with
  | .c (.one (.ptr c o))=>k (.c (.one (.ptr c o))) bG
  | .c (.one (.el u y o))=>k (.c (.one (.el u y o))) bG
  | .c (.one (.f1 c s i o))=>k (.c (.one (.f1 c s i o))) bG
  |_=>False
 | .fieldAddr T x f=>match Im aU T f with
  |some (d,_)=>match a7 K x with
   | .c (.one (.ptr c o))=>k (.c (.one (.ptr c (o+d)))) bG
   | .c (.one (.el u y o))=>k (.c (.one (.el u y (o+d)))) bG
   | .c (.one (.f1 c s i o))=>k (.c (.one (.f1 c s i (o+d)))) bG
   |_=>False
  |none=>False
 | .load T x=>match aU.find T with
  |some ti=>match a7 K x with
   | .c (.one (.ptr c o))=>match ah B c with
    |some (.cells l)=>match ti.row with
     |true=>match Nat.ble (o+ti.size) l.length with
      |true=>ph ((l.drop o).take ti.size) fun l=>k (.c (.agg l)) ⟨[c],[],[]⟩
      |false=>False
     |false=>match l[o]? with
      |some s=>yN s fun s=>k (.c (.one s)) ⟨[c],[],[]⟩
      |none=>False
    |_=>False
   | .c (.one (.el u y o))=>match ti.row with
    |true=>match Nat.ble (o+ti.size) (aS u) with
     |true=>ph (gh u y o ti.size) fun l=>k (.c (.agg l)) bG
     |false=>False
    |false=>match Nat.blt o (aS u) with
     |true=>yM (fA u y o) fun x=>k (.c (.one (.d x))) bG
     |false=>False
   | .c (.one (.f1 c s i o))=>match ah B c with
    |some (.row _ u xs)=>match Nat.beq s (aS u) with
     |true=> ∃y,fB xs i=some y/\match ti.row with
      |true=>match Nat.ble (o+ti.size) (aS u) with
       |true=>ph (gh u y o ti.size) fun l=>k (.c (.agg l)) ⟨[c],[],[]⟩
       |false=>False
      |false=>match Nat.blt o (aS u) with
       |true=>yM (fA u y o) fun x=>k (.c (.one (.d x))) ⟨[c],[],[]⟩
       |false=>False
     |false=>False
    |_=>False
   |_=>False
  |none=>False
 | .store T x v=>match aU.find T with
  |some ti=>match a7 K x with
   | .c (.one (.ptr c o))=>match ah B c with
    |some (.cells l)=>match vr (a7 K v) with
     |some cs=>match Nat.beq cs.length ti.size,Nat.ble (o+cs.length) l.length with
      |true,true=>ph (A2 l o cs) fun l=>k .undef ⟨[c],[],[(c,some (.cells l))]⟩
      |_,_=>False
     |none=>False
    |_=>False
   | .c (.one (.f1 c s i o))=>match ah B c with
    |some (.row e u xs)=>match Nat.beq (aS u) 1,Nat.beq s 1,Nat.beq o 0,Nat.beq ti.size 1,a7 K v with
     |true,true,true,true,.c (.one pi)=>match nE u [pi] with
      |some (y,[],p)=>(tW p/\i < xs.length)/\k .undef ⟨[c],[],[(c,some (.row e u (xs.set i y)))]⟩
      |_=>False
     |_,_,_,_,_=>False
    |_=>False
   |_=>False
  |none=>False
 | .alloc T=>match aU.find T,o.dst with
  |some ti,some d=>gW ids K B d=true/\k (.c (.one (.ptr d 0))) ⟨[],[d],[(d,some (.cells ti.zero))]⟩
  |_,_=>False
 | .box T x=>match aU.find T,o.dst,vr (a7 K x) with
  |some ti,some d,some l=>match Nat.beq l.length ti.size with
   |true=>gW ids K B d=true/\k (.c (.one (.ptr d 0))) ⟨[],[d],[(d,some (.cells l))]⟩
   |false=>False
  |_,_,_=>False
 | .build T bE=>match aU.find T with
  |some ti=>match ti.kd,vs K (fun f=>ti.mt[f]?) bE.toList ti.zero with
   | .st,some l=>ph l fun l=>k (.c (.agg l)) bG
   |_,_=>False
  |none=>False
 | .buildSlice T 0 bE=>match bE.toList with
  | []=>match elemOf aU T,o.dst with
   |some (e,te),some d=>match te.u with
    |some u=>gW ids K B d=true/\k (.c (.one (.own d))) ⟨[],[d],[(d,some (.row e u []))]⟩
    |none=>False
   |_,_=>False
  |_=>False
 | .buildSlice T n bE=>match elemOf aU T with
  |some (_,te)=>match te.u with
   |some u=>match Nat.ble (n*te.size) 1000,vs K (fun i=>some (i*te.size,te.size)) bE.toList (D8 n te.zero) with
    |true,some l=>match wW u n l with
     |some (xs,none)=>k (.c (.one (.d (.ck u xs)))) bG
     |some (xs,some p)=>p/\k (.c (.one (.d (.ck u xs)))) bG
     |none=>n=1/\ ∃y:Z u,(ow u y/\l=gh u y 0 (aS u))/\k (.c (.one (.d (.ck u [y])))) bG
    |_,_=>False
   |none=>False
  |none=>False
 | .indexAddr T x i=>match elemOf aU T,a7 K i with
  |some (_,te),.c (.one (.d (.int .i64 n)))=>match a7 K x with
   | .c (.one (.d (.ck u xs)))=>match Nat.beq te.size (aS u) with
    |true=>0<=n/\ ∃y,fB xs n.toNat=some y/\k (.c (.one (.el u y 0))) bG
    |false=>False
   | .c (.one (.own c))=>match ah B c with
    |some (.row _ u xs)=>match Nat.beq te.size (aS u) with
     |true=>(0<=n/\n < xs.length)/\k (.c (.one (.f1 c (aS u) n.toNat 0))) ⟨[c],[],[]⟩
     |false=>False
    |_=>False
   |_=>False
  |_,_=>False
 | .index T x i=>match w0 aU T,a7 K x,a7 K i with
  |true,.c (.one (.d (.str s))),.c (.one (.d (.int .i64 n)))=>0<=n/\ ∃y,fB s n.toNat=some y/\k (.c (.one (.d (.int .u8 (UInt8.toNat y:Int))))) bG
  |_,_,_=>False
 | .slice T x hl aI none=>match a7 K x with
  | .c (.one (.own c))=>match elemOf aU T,ah B c with
   |some (_,te),some (.row _ u xs)=>match yR xs.length (hl.map (a7 K)) (aI.map (a7 K)),Nat.beq te.size (aS u) with
    |some (l,h,p),true=>p/\k (.c (.one (.os c (aS u) l (h - l)))) ⟨[c],[],[]⟩
    |_,_=>False
   |_,_=>False
  | .c (.one (.ptr c o))=>match hl,aI,Nat.beq o 0 with
   |none,none,true=>Ix aU T c B k
   |_,_,_=>False
  |_=>Ip aU T (a7 K x) (hl.map (a7 K)) (aI.map (a7 K)) k
 | .sliceToArrayPointer T x=>Iy aU T (a7 K x) k
 | .convert S T x=>Io aU S T (a7 K x) B k
 | .lookup T x i ok=>Is aU T (a7 K x) (a7 K i) ok B k
 | .mapUpdate T x i v=>Iu aU T (a7 K x) (a7 K i) (a7 K v) B k
 | .makeMap T none=>Iw aU T o.dst ids K B k
 | .makeFunc (.func f) fs cs=>match fs.toList,wZ (cs.toList.map (a7 K)) with
  | [],some l=>k (.c (.one (.cT f l))) bG
  |_,_=>False
 | .makeSlice T x y=>match elemOf aU T,a7 K x,a7 K y,o.dst with
  |some (e,te),.c (.one (.d (.int .i64 n))),.c (.one (.d (.int .i64 m))),some d=>match qV aU e with
   |true=>(n=m/\0<=n/\n<=4294967296)/\gW ids K B d=true/\k (.c (.one (.own d))) ⟨[],[d],[(d,some (.row e .u8 (List.replicate n.toNat (0:UInt8))))]⟩
   |false=>False
  |_,_,_,_=>False
 | .call c=>match c.callee,c.args.toList with
  | .value (.func f),xs=>wX P f (xs.map (a7 K)) ids K B k
  | .value (.tmp t),xs=>match dA K t with
   | .c (.one (.cT f l))=>wX P f (xs.map (a7 K)++oA l) ids K B k
   | .c (.one (.d (.fn x)))=>wX P x.1 (xs.map (a7 K)++tY x.2) ids K B k
   |_=>False
  | .builtin .len,[x]=>match c.argTypes.toList with
   | [T]=>match In aU T B (a7 K x) with
    |some (n,ig)=>k (.c (.one (.d (.int .i64 (n:Int))))) ⟨ig,[],[]⟩
    |none=>False
   |_=>False
  | .builtin .delete,[x,y]=>match c.argTypes.toList with
   | [T,_]=>Iv aU T (a7 K x) (a7 K y) B k
   |_=>False
  | .builtin .min,[x,y]=>match a7 K x,a7 K y with
   | .c (.one (.d (.int .i64 a))),.c (.one (.d (.int .i64 b)))=>k (.c (.one (.d (.int .i64 (min a b))))) bG
   |_,_=>False
  | .builtin .max,[x,y]=>match a7 K x,a7 K y with
   | .c (.one (.d (.int .i64 a))),.c (.one (.d (.int .i64 b)))=>k (.c (.one (.d (.int .i64 (max a b))))) bG
   |_,_=>False
  | .builtin .copy,[x,y]=>match c.argTypes.toList with
   | [T,eT]=>Iz aU T (a7 K x) (a7 K y) B k
   |_=>False
  | .builtin .append,[x,y]=>match c.argTypes.toList with
   | [T,eT]=>match Nat.beq T eT with
    |true=>Iq aU T (a7 K x) (a7 K y) o.dst ids K B k
    |false=>Ir aU T eT (a7 K x) (a7 K y) o.dst ids K B k
   |_=>False
  |_,_=>Eg P ids o K B k
 |_=>Eg P ids o K B k
def Eh (K:a1) (B:ay) (x:Operand):Bool:=match a7 K x with
 | .c (.one (.mp c))=>match ah B c with
  |some (.aG _)=>true
  |_=>false
 |_=>false
def Ei:aQ->Bool
 | .c (.one (.d (.aM _)))=>true
 | .c (.one (.bI _))=>true
 |_=>false
def Ot (K:a1) (B:ay) (x:Operand):Bool:=match a7 K x with
 | .c (.one (.ptr c _))=>match ah B c with
  |some (.val _ _)=>true
  |_=>false
 | .c (.one (.f1 c _ _ _))=>match ah B c with
  |some (.val _ _)=>true
  |_=>false
 |_=>false
def XB (K:a1) (B:ay) (x:Operand):Bool:=match a7 K x with
 | .c (.one (.f1 c _ _ _))=>match ah B c with
  |some (.row _ u _)=> !Nat.beq (aS u) 1
  |_=>false
 |_=>false
def Ou:aQ->Bool
 | .c (.agg _)=>true
 | .c (.jX _ _)=>true
 |_=>false
def IB (K:a1) (f:Nat):Bool:=match dA K (1000000+f) with
 | .undef=>true
 |_=>false
def XC (aU:dd) (o:Oper) (K:a1) (B:ay):Bool:=match o.op with
 | .lookup _ x _ _=>Eh K B x
 | .mapUpdate _ x _ _=>Eh K B x
 | .indexAddr _ x _=>match a7 K x with
  | .c (.one (.ptr _ _))=>true
  |_=>false
 | .nilCheck x=>Ei (a7 K x)
 | .fieldAddr _ x _=>Ei (a7 K x)
 | .load _ x=>Ei (a7 K x)||Ot K B x
 | .store _ x _=>Ei (a7 K x)||Ot K B x||XB K B x
 | .binOp op _ x y _=>match op with
  | .and=>true
  |_=>match y with
   | .const .nilFunc=>true
   | .const .nilIface=>true
   |_=>Ou (a7 K x)||(match o.dst with
    |some d=>IB K (2000000+d)
    |none=>false)
 | .index _ x _=>Ou (a7 K x)
 | .makeSlice T _ _=>match elemOf aU T with
  |some (e,_)=> !qV aU e
  |none=>false
 | .build T _=>match aU.find T with
  |some ti=>match ti.kd with
   | .arr _ _=>true
   |_=>false
  |none=>false
 | .buildSlice _ _ _=>match o.dst with
  |some d=>IB K (1000000+d)
  |none=>false
 | .call c=>match c.callee,c.args.toList with
  | .builtin .delete,x::_=>Eh K B x
  | .builtin .len,x::_=>Eh K B x
  | .value (.func f),_=>IB K f
  | .value (.tmp t),_=>match dA K t with
   | .c (.one (.bI _))=>true
   |_=>false
  |_,_=>false
 | .makeFunc _ fs _=>match fs.toList with
  | []=>false
  |_=>true
 |_=>false
def Ej (P:Program) (aU:dd) (ids:List Nat) (o:Oper) (K:a1) (B:ay) (k:aQ->fP->Prop):Prop:=match XC aU o K B with
 |true=>Eg P ids o K B k
 |false=>IA P aU ids o K B k
def A4 (all:List Oper) (j:Nat):Option Nat:=match all[j]? with
 |some o=>o.dst
 |none=>none
def Ek (i:Nat):List Oper->Bool
 | []=>false
 |o::l=>match o.guard with
  |some (j,_)=>match Nat.beq j i with
   |true=>true
   |false=>Ek i l
  |none=>Ek i l
def tZ (all:List Oper) (K:a1) (g:Option (Nat×Bool)):Option Bool:=match g with
 |none=>some true
 |some (j,want)=>match A4 all j with
  |none=>none
  |some s=>match dA K s,want with
   | .c (.one (.d (.lit true))),true=>some true
   | .c (.one (.d (.lit true))),false=>some false
   | .c (.one (.d (.lit false))),true=>some false
   | .c (.one (.d (.lit false))),false=>some true
   | .undef,_=>some false
   |_,_=>none
structure kJ where
 i:Nat
 v:aQ
 e:fP
noncomputable def El (P:Program) (aU:dd) (ids:List Nat) (all:List Oper) (o:Oper) (l:List Oper) (br:Nat->a1->ay->List kJ->Prop) (i:Nat) (K:a1) (B:ay) (gi:List kJ):Prop:=
 match tZ all K o.guard with
 |none=>False
 |some false=>match o.dst with
  |some d=>br (i+1) ((d,.undef)::K) B (⟨i,.undef,bG⟩::gi)
  |none=>br (i+1) K B (⟨i,.undef,bG⟩::gi)
 |some true=>Ej P aU ids o K B fun v e=>match o.dst with
  |none=>wV e.hy B fun B=>br (i+1) K B (⟨i,.undef,e⟩::gi)
  |some d=>match Ek i l,v with
   |true,.c (.one (.d (.bool b)))=>
    wV e.hy B fun B=>(b=true->br (i+1) ((d,.c (.one (.d (.lit true))))::K) B (⟨i,.c (.one (.d (.lit true))),e⟩::gi))/\
    (b=false->br (i+1) ((d,.c (.one (.d (.lit false))))::K) B (⟨i,.c (.one (.d (.lit false))),e⟩::gi))
   |_,v=>wV e.hy B fun B=>br (i+1) ((d,v)::K) B (⟨i,v,e⟩::gi)
noncomputable def s0 (P:Program) (aU:dd) (ids:List Nat) (all:List Oper) (i:Nat) (l:List Oper) (K:a1) (B:ay) (gi:List kJ) (k:a1->ay->List kJ->Prop):Prop:=
 List.rec (motive:=fun _=>Nat->a1->ay->List kJ->Prop) (fun _ K B gi=>k K B gi) (fun o l br i K B gi=>El P aU ids all o l br i K B gi) l i K B gi
theorem Ov {P:Program} {aU:dd} {ids:List Nat} {all:List Oper} {i:Nat} {o:Oper} {l:List Oper} {K:a1} {B:ay} {gi:List kJ} {k:a1->ay->List kJ->Prop}:
 s0 P aU ids all i (o::l) K B gi k=El P aU ids all o l (fun i K B gi=>s0 P aU ids all i l K B gi k) i K B gi:=rfl
inductive nG where
 |gX
 |ex (id:Nat)
 |ret
def nG.to:nG->Exit
 | .gX=>.normal
 | .ex id=>.exit id
 | .ret=>.ret
abbrev oB (r:Option Nat):Fence:={fn:=fun _=>True,depth:=none,alive:=false,round:=r}
abbrev e8.at (C:e8) (ds:List Nat):e8:={C with ds:=ds}
def t1 (ids:List Nat):Bool:=ids.contains 0
def bt (P:Program) (N:Nat) (ids:List Nat) (c:Code) (K:a1) (B:ay) (Q:nG->a1->ay->Prop):Prop:=
 ∀r:Option Nat,(t1 ids=false->r=none)-> ∀(C:e8) (h0:Exit->Act->World->Prop),(∀e K' B' ds,(t1 ids=true->ds=C.ds)->Q e K' B'-> ∀a w,eX N ids (C.at ds) K' B' a w->h0 e.to a w)-> ∀a w,eX N ids C K B a w->c.wpIn (oB r) 0 P h0 a w
def Em (all:List Oper) (o:Oper):List Nat:=(o.op.operands.toList.filterMap fun
 | .tmp t=>some t
 |_=>none)++(match o.guard with
 |some (j,_)=>(A4 all j).toList
 |none=>[])
def p1 (o:Oper):List Nat:=(o.after.toList.filter fun e=>Region.binds .any e).map (·.on)
def yT:List Oper->List (List Nat)->List (List Nat)
 | [],acc=>acc
 |o::l,acc=>yT l (acc++[p1 o++(p1 o).flatMap fun d=>acc.getD d []])
def En (e:fP):List Nat:=e.hy.map (·.1)
def yU (a b:List Nat):Bool:=a.any fun x=>b.contains x
def yV (c:Nat):List (Nat×Option bd)->Bool
 | []=>false
 |(d,none)::l=>Nat.beq d c||yV c l
 |(d,some ch)::l=>Nat.beq d c||ch.has c||yV c l
def named (n:kJ) (c:Nat):Bool:=n.v.has c||yV c n.e.hy
def apart (all:List Oper) (o p:Oper) (n m:kJ):Bool:=
 !yU o.dst.toList (Em all p++p.dst.toList)&& !yU p.dst.toList (Em all o)&& !yU (En n.e) (m.e.ig++En m.e)&& !yU (En m.e) n.e.ig&& !n.e.bf.any (named m)&& !m.e.bf.any (named n)
def t2 (all:List Oper) (an:List (List Nat)):List (Oper×kJ×Nat)->Bool
 | []=>true
 |(o,n,i)::l=>(l.all fun(p,m,j)=>(an.getD j []).contains i&& !m.e.bf.any (named n)||apart all o p n m)&&t2 all an l
def vu (K:a1) (B:ay) (c9:List Oper) (gi:List kJ):Bool:=
 let es:=gi.reverse
 (c9.zipIdx.all fun(o,i)=>(p1 o).all fun d=>Nat.blt d i)&&(es.all fun n=>n.e.bf.all fun c=>tV c K&&kh c B)&&t2 c9 (yT c9 []) ((c9.zip es).zipIdx.map fun((o,n),i)=>(o,n,i))
abbrev A5:=nG->a1->ay->Prop
noncomputable def jm (P:Program) (aU:dd) (N:Nat) (ids:List Nat) (stops:List Nat) (c:Code):a1->ay->A5->Prop:=
 Code.rec (motive:=fun _=>a1->ay->A5->Prop)
  (fun K B Q=>Q .gX K B)
  (fun id c9 draw K B Q=>match stops.contains id with
   |true=>bt P N ids (.region id c9 draw) K B Q
   |false=>match draw with
    |false=>s0 P aU ids c9.toList 0 c9.toList K B [] fun K B _=>Q .gX K B
    |true=>s0 P aU ids c9.toList 0 c9.toList K B [] fun K' B' gi=>vu K B c9.toList gi=true/\Q .gX K' B')
  (fun _ _ t6 A6 K B Q=>t6 K B fun e K B=>match e with
   | .gX=>A6 K B Q
   | .ex i=>Q (.ex i) K B
   | .ret=>Q .ret K B)
  (fun c _ _ Ow Ox K B Q=>match a7 K c with
   | .c (.one (.d (.lit true)))=>Ow K B Q
   | .c (.one (.d (.lit false)))=>Ox K B Q
   | .c (.one (.d (.bool b)))=>(b=true->Ow K B Q)/\(b=false->Ox K B Q)
   |_=>False)
  (fun i _ A6 K B Q=>A6 K B fun e K B=>match e with
   | .ex j=>match Nat.beq j i with
    |true=>Q .gX K B
    |false=>Q (.ex j) K B
   | .gX=>Q .gX K B
   | .ret=>Q .ret K B)
  (fun b _ K B Q=>bt P N ids (.loop b) K B Q)
  (fun f bE x b _ _ K B Q=>bt P N ids (.rangeFunc f bE x b) K B Q)
  (fun i K B Q=>Q (.ex i) K B)
  (fun _ A6 K B Q=>A6 K B Q)
  (fun _ K B Q=>Q .gX K B)
  (fun _ _ _ _=>False)
  (fun K B Q=>Q .ret K B)
  (fun _ _ _ _=>False) c
section
variable {P:Program} {aU:dd} {N:Nat} {ids stops:List Nat} {K:a1} {B:ay} {Q:A5}
theorem XD {id:Nat} {c9:Array Oper} {draw:Bool}:jm P aU N ids stops (.region id c9 draw) K B Q=(match stops.contains id with
 |true=>bt P N ids (.region id c9 draw) K B Q
 |false=>match draw with
  |false=>s0 P aU ids c9.toList 0 c9.toList K B [] fun K B _=>Q .gX K B
  |true=>s0 P aU ids c9.toList 0 c9.toList K B [] fun K' B' gi=>vu K B c9.toList gi=true/\Q .gX K' B'):=rfl
theorem XE {a b:Code}:jm P aU N ids stops (.seq a b) K B Q=jm P aU N ids stops a K B fun e K B=>match e with
 | .gX=>jm P aU N ids stops b K B Q
 | .ex i=>Q (.ex i) K B
 | .ret=>Q .ret K B:=rfl
theorem XF {c:Operand} {x y:Code}:jm P aU N ids stops (.cond c x y) K B Q=(match a7 K c with
 | .c (.one (.d (.lit true)))=>jm P aU N ids stops x K B Q
 | .c (.one (.d (.lit false)))=>jm P aU N ids stops y K B Q
 | .c (.one (.d (.bool b)))=>(b=true->jm P aU N ids stops x K B Q)/\(b=false->jm P aU N ids stops y K B Q)
 |_=>False):=rfl
theorem XG {i:Nat} {b:Code}:jm P aU N ids stops (.block i b) K B Q=jm P aU N ids stops b K B fun e K B=>match e with
 | .ex j=>match Nat.beq j i with
  |true=>Q .gX K B
  |false=>Q (.ex j) K B
 | .gX=>Q .gX K B
 | .ret=>Q .ret K B:=rfl
theorem XH {b:Code}:jm P aU N ids stops (.scope b) K B Q=jm P aU N ids stops b K B Q:=rfl
end
end Go.Proofs.YthnboghbhgapcaaGreat
