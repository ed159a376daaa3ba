/-
A part of the proof of this claim: lemmas, with no condition beyond what each says.
-/
import Derived.Test.YthnboghbhgapcaaGreatZb1
set_option linter.unusedVariables false
set_option linter.unusedSimpArgs false
set_option maxRecDepth 10000
set_option maxHeartbeats 4000000
namespace Go.Proofs.YthnboghbhgapcaaGreat
open Go.RowKit
inductive Ou where
 |int (k:IntKind)
 |bool
 |str
 |ptr (e:Nat)
 |b7 (e:Nat)
 |st
 |arr (n e:Nat)
 |mp (k e:Nat)
 |other
structure cb where
 kd:Ou
 size:Nat
 row:Bool
 zero:List bC
 mv:List (Nat×Nat)
 u:Option bx
 bytes:Nat
inductive dc where
 |leaf
 |node (l:dc) (k:Nat) (x:cb) (r:dc)
def dc.find:dc->Nat->Option cb
 | .leaf,_=>none
 | .node l k x r,n=>match Nat.blt n k with
  |true=>l.find n
  |false=>match Nat.beq n k with
   |true=>some x
   |false=>r.find n
def yU (x:D) (k:D->Prop):Prop:=match x with
 | .int i n=>k (.int i n)
 | .lit true=>k (.lit true)
 | .lit false=>k (.lit false)
 | .bool b=>k (.bool b)
 | .str s=>k (.str s)
 | .aL x=>k (.aL x)
 | .dC x=>k (.dC x)
 | .fn x=>k (.fn x)
 | .ck u xs=>k (.ck u xs)
def yV (s:bC) (k:bC->Prop):Prop:=match s with
 | .d x=>yU x fun x=>k (.d x)
 | .ptr c o=>k (.ptr c o)
 | .own c=>k (.own c)
 | .el u x o=>k (.el u x o)
 | .f2 c s i o=>k (.f2 c s i o)
 | .os c s o n=>k (.os c s o n)
 | .mp c=>k (.mp c)
 | .cU f l=>k (.cU f l)
 | .dD=>k .dD
 | .bJ v=>k (.bJ v)
 | .any=>k .any
def pm (l:List bC) (k:List bC->Prop):Prop:=match l with
 | []=>k []
 |s::l=>yV s fun s=>pm l fun l=>k (s::l)
def w1 (x:dI) (k:dI->Prop):Prop:=match x with
 | .one s=>yV s fun s=>k (.one s)
 | .agg l=>pm l fun l=>k (.agg l)
 | .jV u x=>k (.jV u x)
def D8 (l:List dI) (k:List dI->Prop):Prop:=match l with
 | []=>k []
 |s::l=>w1 s fun s=>D8 l fun l=>k (s::l)
def oB (x:aP) (k:aP->Prop):Prop:=match x with
 | .c x=>w1 x fun x=>k (.c x)
 | .cf l=>D8 l fun l=>k (.cf l)
 | .undef=>k .undef
theorem Id (x:D) (k:D->Prop):yU x k=k x:=by
 cases x with
 |lit b=>cases b <;>rfl
 |_=>rfl
theorem Ie (x:bC) (k:bC->Prop):yV x k=k x:=by
 cases x with
 |d x=>simp only[yV,Id]
 |_=>rfl
theorem yW (l:List bC) (k:List bC->Prop):pm l k=k l:=by
 induction l generalizing k with
 |nil=>rfl
 |cons s l br=>simp only[pm,Ie,br]
theorem D9 (x:dI) (k:dI->Prop):w1 x k=k x:=by
 cases x with
 |one x=>simp only[w1,Ie]
 |agg l=>simp only[w1,yW]
 |jV u x=>rfl
theorem XK (l:List dI) (k:List dI->Prop):D8 l k=k l:=by
 induction l generalizing k with
 |nil=>rfl
 |cons s l br=>simp only[D8,D9,br]
theorem rW (x:aP) (k:aP->Prop):oB x k=k x:=by
 cases x with
 |c x=>simp only[oB,D9]
 |cf l=>simp only[oB,XK]
 |undef=>rfl
structure fR where
 ig:ay5
 bc:ay5
 hA:List (Nat×Option bb)
abbrev bG:fR:=⟨[],[],[]⟩
def hb:List (Nat×Option bb)->aw->aw
 | [],B=>B
 |(c,none)::l,B=>hb l (gM B c)
 |(c,some ch)::l,B=>hb l ((c,ch)::B)
def yX (c:Nat):ay5->Bool
 | []=>false
 |d::l=>match Nat.beq c d with
  |true=>true
  |false=>yX c l
def t1 (ks:ay5):aw->aw
 | []=>[]
 |(c,ch)::B=>match yX c ks with
  |true=>t1 ks B
  |false=>(c,ch)::t1 ks B
theorem D': ∀B:aw,t1 [] B=B
 | []=>rfl
 |(c,ch)::B=>congrArg ((c,ch):: ·) (D' B)
theorem Ov (c:Nat) (ks:ay5): ∀B:aw,t1 (c::ks) B=gM (t1 ks B) c
 | []=>rfl
 |(d,ch)::B=>by
  have br:=Ov c ks B;simp only[t1,yX]
  cases E:Nat.beq d c <;>cases G:yX d ks <;>simp only[gM,E,br]
noncomputable def Ea (ks:ay5) (B:aw) (k:aw->Prop):Prop:=match ks with
 | []=>k B
 |ks=>List.rec (motive:=fun _=>(aw->Prop)->Prop) (fun k=>k []) (fun p _ br k=>match p with
  |(c,ch)=>match yX c ks with
   |true=>br k
   |false=>br fun l=>k ((c,ch)::l)) B k
theorem Ow (ks:ay5) (B:aw) (k:aw->Prop):Ea ks B k=k (t1 ks B):=by
 match ks with
 | []=>exact congrArg k (D' B).symm
 |d::ks=>
  show List.rec (motive:=fun _=>(aw->Prop)->Prop) _ _ B k=_
  induction B generalizing k with
  |nil=>rfl
  |cons p l br=>
   obtain⟨c,ch⟩:=p;simp only[t1]
   cases h:yX c (d::ks)
   .exact br _
   .exact br _
noncomputable def If (hA:List (Nat×Option bb)) (ks:ay5) (B:aw) (k:aw->Prop):Prop:=
 List.rec (motive:=fun _=>ay5->aw->Prop) (fun ks B=>Ea ks B k) (fun p _ br ks B=>match p with
  |(c,none)=>br (c::ks) B
  |(c,some ch)=>Ea ks B fun B=>br [] ((c,ch)::B)) hA ks B
noncomputable def w2 (hA:List (Nat×Option bb)) (B:aw) (k:aw->Prop):Prop:=If hA [] B k
theorem XL (hA:List (Nat×Option bb)) (k:aw->Prop): ∀(ks:ay5) (B:aw),If hA ks B k=k (hb hA (t1 ks B)):=by
 induction hA with
 |nil=>exact fun ks B=>Ow ks B k
 |cons p l br=>
  intro ks B;obtain⟨c,o⟩:=p
  cases o with
  |none=>exact(br (c::ks) B).trans (by rw[Ov];rfl)
  |some ch=>
   show Ea ks B (fun B=>If l [] ((c,ch)::B) k)=_;rw[Ow,br,D'];rfl
theorem Ig (hA:List (Nat×Option bb)) (B:aw) (k:aw->Prop):w2 hA B k=k (hb hA B):=(XL hA k [] B).trans (by rw[D'])
def t2 (c:Nat):aY->Bool
 | []=>true
 |(_,v)::K=> !v.has c&&t2 c K
def ki (c:Nat):aw->Bool
 | []=>true
 |(d,ch)::B=> !Nat.beq d c&& !ch.has c&&ki c B
def gX (ids:ay5) (K:aY) (B:aw) (c:Nat):Bool:=t2 c K&&ki c B&& !ids.contains c
abbrev kJ (s:bC):aP:=.c (.one s)
abbrev ac (n:Int):aP:=.c (.one (.d (.int .i64 n)))
abbrev fK (b:Bool):aP:=.c (.one (.d (.bool b)))
abbrev qV (b:Bool):aP:=.c (.one (.d (.lit b)))
abbrev bU (s:ay4):aP:=.c (.one (.d (.str s)))
abbrev bS (u:bx) (xs:List (aa u)):aP:=.c (.one (.d (.ck u xs)))
abbrev ap (c:Nat):aP:=.c (.one (.ptr c 0))
abbrev eO (c:Nat):aP:=.c (.one (.own c))
def bC.ok:bC->Bool
 | .any=>false
 | .bJ (.agg _)=>false
 | .bJ (.tuple _)=>false
 |_=>true
def Eb:List bC->Bool
 | []=>true
 |s::l=>s.ok&&Eb l
def vz:aP->Option (List bC)
 | .c (.one s)=>match s.ok with
  |true=>some [s]
  |false=>none
 | .c (.agg l)=>match Eb l with
  |true=>some l
  |false=>none
 |_=>none
def Ba (l:List bC) (o:Nat) (cs:List bC):List bC:=l.take o++cs++l.drop (o+cs.length)
def vA (K:aY) (mv:Nat->Option (Nat×Nat)):List (Nat×Operand)->List bC->Option (List bC)
 | [],l=>some l
 |(i,x)::bE,l=>match mv i,vz (a6 K x) with
  |some (o,n),some cs=>match Nat.beq cs.length n,Nat.ble (o+n) l.length with
   |true,true=>vA K mv bE (Ba l o cs)
   |_,_=>none
  |_,_=>none
def qW:(u v:bx)->Option (PLift (u=v))
 | .int .i64,.int .i64=>some ⟨rfl⟩
 | .int .u8,.int .u8=>some ⟨rfl⟩
 | .int .u16,.int .u16=>some ⟨rfl⟩
 | .int .u32,.int .u32=>some ⟨rfl⟩
 | .int .u64,.int .u64=>some ⟨rfl⟩
 | .int .i32,.int .i32=>some ⟨rfl⟩
 | .u8,.u8=>some ⟨rfl⟩
 | .bool,.bool=>some ⟨rfl⟩
 | .str,.str=>some ⟨rfl⟩
 | .aL,.aL=>some ⟨rfl⟩
 | .dC,.dC=>some ⟨rfl⟩
 | .fn,.fn=>some ⟨rfl⟩
 | .b7 u,.b7 v=>match qW u v with
  |some ⟨h⟩=>some ⟨congrArg bx.b7 h⟩
  |none=>none
 | .bQ u s4,.bQ v cW=>match qW u v,qW s4 cW with
  |some ⟨h⟩,some ⟨h'⟩=>some ⟨h▸h'▸rfl⟩
  |_,_=>none
 | .arr n u,.arr m v=>match qW u v with
  |some ⟨h⟩=>if hn:n=m then some ⟨hn▸h▸rfl⟩ else none
  |none=>none
 |_,_=>none
def l2:IntKind->IntKind->Bool
 | .i64,.i64=>true
 | .u8,.u8=>true
 | .u16,.u16=>true
 | .u32,.u32=>true
 | .u64,.u64=>true
 | .i32,.i32=>true
 | .i16,.i16=>true
 | .i8,.i8=>true
 |_,_=>false
def nD {u v:bx} (h:u=v) (xs:List (aa u)):List (aa v):=match v,h with
 |_,rfl=>xs
def Ih {u v:bx} (h:u=v) (x:aa u):aa v:=match v,h with
 |_,rfl=>x
def Ii (x y:D):Prop:=match x,y with
 | .int k a,.int dV b=>match l2 k dV with
  |true=>a=b
  |false=>False
 | .str a,.str b=>a=b
 | .aL a,.aL b=>a=b
 | .dC a,.dC b=>a=b
 | .fn a,.fn b=>a=b
 | .bool a,.bool b=>a=b
 | .lit a,.lit b=>a=b
 | .lit a,.bool b=>a=b
 | .ck u xs,.ck v ys=>match qW u v with
  |some ⟨h⟩=>nD h xs=ys
  |none=>False
 |_,_=>False
def Ec (s t:bC):Prop:=match t,s with
 | .any,_=>True
 | .d y,.d x=>Ii x y
 | .d (.ck u ys),.dD=>ys=[]
 |t,s=>s=t
def Ed:List bC->List bC->Prop
 | [],[]=>True
 |s::l,t::m=>Ec s t/\Ed l m
 |_,_=>False
def Ee (s t:dI):Prop:=match s,t with
 | .one s,.one t=>Ec s t
 | .agg l,.agg m=>Ed l m
 | .agg _,.one .any=>True
 | .jV u x,.jV v y=>match qW u v with
  |some ⟨h⟩=>Ih h x=y
  |none=>False
 | .jV _ _,.one .any=>True
 |_,_=>False
def Ij:List dI->List dI->Prop
 | [],[]=>True
 |s::l,t::m=>Ee s t/\Ij l m
 |_,_=>False
def s5 (s t:aP):Prop:=match s,t with
 | .c s,.c t=>Ee s t
 | .cf l,.cf m=>Ij l m
 | .undef,.undef=>True
 |_,.c (.one .any)=>True
 |_,_=>False
def Ef:List aP->List aP->Prop
 | [],[]=>True
 |s::l,t::m=>s5 s t/\Ef l m
 |_,_=>False
def Ik:Option Prop->Option Prop->Option Prop
 |none,q=>q
 |some p,none=>some p
 |some p,some q=>some (p/\q)
def t6:Option Prop->Prop
 |none=>True
 |some p=>p
def Il (k:IntKind):List bC->Option (Int×List bC×Option Prop)
 | .d (.int dV n)::l=>match l2 dV k with
  |true=>some (n,l,none)
  |false=>none
 |_=>none
def Im:List bC->Option (UInt8×List bC×Option Prop)
 | .d (.int dV n)::l=>match l2 dV .u8 with
  |true=>some (UInt8.ofNat n.toNat,l,some (0<=n/\n < 256))
  |false=>none
 |_=>none
def In:List bC->Option (Bool×List bC×Option Prop)
 | .d (.lit b)::l=>some (b,l,none)
 | .d (.bool b)::l=>some (b,l,none)
 |_=>none
def Io:List bC->Option (ay4×List bC×Option Prop)
 | .d (.str s)::l=>some (s,l,none)
 |_=>none
def Ip:List bC->Option (Option Nat×List bC×Option Prop)
 | .d (.aL x)::l=>some (x,l,none)
 | .bJ (.pointer none)::l=>some (none,l,none)
 |_=>none
def Iq:List bC->Option (Option (Nat×Nat×Nat)×List bC×Option Prop)
 | .d (.dC x)::l=>some (x,l,none)
 | .dD::l=>some (none,l,none)
 |_=>none
def Bb:List kH->Option ay5
 | []=>some []
 | .d (.aL (some b))::l=>match Bb l with
  |some r=>some (b::r)
  |none=>none
 |_=>none
def Ir:List bC->Option ((Nat×ay5)×List bC×Option Prop)
 | .d (.fn x)::l=>some (x,l,none)
 | .cU f m::l=>match Bb m with
  |some bs=>some ((f,bs),l,none)
  |none=>none
 |_=>none
def Is (u:bx):List bC->Option (List (aa u)×List bC×Option Prop)
 | .dD::l=>some ([],l,none)
 | .d (.ck v xs)::l=>match qW v u with
  |some ⟨h⟩=>some (nD h xs,l,none)
  |none=>none
 |_=>none
def nE:(u:bx)->List bC->Option (aa u×List bC×Option Prop)
 | .int k,l=>Il k l
 | .u8,l=>Im l
 | .bool,l=>In l
 | .str,l=>Io l
 | .aL,l=>Ip l
 | .dC,l=>Iq l
 | .fn,l=>Ir l
 | .b7 u,l=>Is u l
 | .bQ u v,l=>match nE u l with
  |some (x,l,p)=>match nE v l with
   |some (y,l,q)=>some ((x,y),l,Ik p q)
   |none=>none
  |none=>none
 | .arr _ _,_=>none
def w3 (u:bx):Nat->List bC->Option (List (aa u)×Option Prop)
 |0,[]=>some ([],none)
 |0,_=>none
 |n+1,l=>match nE u l with
  |some (x,l,p)=>match w3 u n l with
   |some (xs,q)=>some (x::xs,Ik p q)
   |none=>none
  |none=>none
def Eg (n:Nat) (l:List bC):List bC:=match n with
 |0=>[]
 |n+1=>l++Eg n l
def gi (u:bx) (x:aa u) (o:Nat):Nat->List bC
 |0=>[]
 |n+1=>.d (fC u x o)::gi u x (o+1) n
def t7 (k:IntKind) (n:Int):Prop:=match k with
 | .i64=> -9223372036854775808<=n/\n<=9223372036854775807
 | .u8=>0<=n/\n < 256
 | .u16=>0<=n/\n < 65536
 | .u32=>0<=n/\n < 4294967296
 | .u64=>0<=n/\n < 18446744073709551616
 | .i32=> -2147483648<=n/\n<=2147483647
 | .i16=> -32768<=n/\n<=32767
 | .i8=> -128<=n/\n<=127
def jl (P:Program) (f:FuncId):Bool:=match P.funcs[f]? with
 |some fn=> !(fn.name == "runtime.NumGoroutine" ||fn.body.isNone)
 |none=>false
def Fn (P:Program) (f:FuncId) (args:List aP) (aJ:aw) (bc:ay5) (res:aP) (aO:aw):Prop:=
 jl P f=true/\ ∀(ρ:Nat->bn) (F:Nat->Nat->Prop) (I:Nat->Prop) (w:World) (bW:List Value),
  (∀b,I b->b < w.heap.size)->(∀c ch,ag aJ c=some ch->Holds ρ I (F c) w (ρ c) ch)->(∀c ch,ag aJ c=some ch-> ∀b,F c b->b < w.heap.size/\ ¬I b)->
  (∀c bX ch ch' b,ag aJ c=some ch->ag aJ bX=some ch'->c≠bX->F c b-> ¬F bX b)->
  bW.length=args.length->(∀(i:Nat) (v:aP) (x:Value),args[i]? =some v->bW[i]? =some x->cr ρ I w v x)->
  Calls P f bW.toArray w fun e w'=> ∃(x:Value) (ρ':Nat->bn) (F':Nat->Nat->Prop),e= .returned x/\cK (fun b=> ∃c ch,ag aJ c=some ch/\F c b) w w'/\(∀c,c∉bc->ρ' c=ρ c)/\
   ∃I':Nat->Prop,ce I w I' w'/\(∀b,I' b->b < w'.heap.size/\(I b\/(∃c ch,ag aJ c=some ch/\F c b)\/w.heap.size<=b))/\
   (∀c ch,ag aO c=some ch->Holds ρ' I' (F' c) w' (ρ' c) ch)/\
   (∀c ch,ag aO c=some ch-> ∀b,F' c b->b < w'.heap.size/\ ¬I' b/\((∃gW cw,ag aJ gW=some cw/\F gW b)\/w.heap.size<=b))/\
   (∀c bX ch ch' b,ag aO c=some ch->ag aO bX=some ch'->c≠bX->F' c b-> ¬F' bX b)/\cr ρ' I' w' res x
def kK (B:aw):aw->Prop
 | []=>True
 |(c,ch)::l=>ag B c=some ch/\kK B l
def cl:aw->ay5
 | []=>[]
 |(c,_)::l=>c::cl l
def It:aw->List (Nat×Option bb)
 | []=>[]
 |(c,ch)::l=>(c,some ch)::It l
def iy:aw->aw->List (Nat×Option bb)
 | [],m=>It m
 |(c,_)::l,m=>(c,none)::iy l m
def mw (aJ:aw) (bc:ay5):aw->Bool
 | []=>true
 |(c,_)::l=>((cl aJ).contains c||bc.contains c)&& !(cl l).contains c&&mw aJ bc l
def rX (ids:ay5) (K:aY) (B:aw):ay5->Bool
 | []=>true
 |c::l=>gX ids K B c&& !l.contains c&&rX ids K B l
def w4 (P:Program) (f:FuncId) (args:List aP) (ids:ay5) (K:aY) (B:aw) (k:aP->fR->Prop):Prop:=
 ∃aJ bc res aO,Fn P f args aJ bc res aO/\kK B aJ/\(rX ids K B bc&&mw aJ bc aO)=true/\oB res fun r=>k r ⟨cl aJ,bc,iy aJ aO⟩
def nF (k:IntKind) (n:Int) (q:Prop):Prop:=match k with
 | .i64=>(-9223372036854775808<=n/\n<=9223372036854775807)/\q
 | .u8=>(0<=n/\n < 256)/\q
 | .u16=>(0<=n/\n < 65536)/\q
 | .u32=>(0<=n/\n < 4294967296)/\q
 | .u64=>(0<=n/\n < 18446744073709551616)/\q
 | .i32=>(-2147483648<=n/\n<=2147483647)/\q
 | .i16=>(-32768<=n/\n<=32767)/\q
 | .i8=>(-128<=n/\n<=127)/\q
theorem w5 {k:IntKind} {n:Int} {q:Prop} (h:nF k n q):t7 k n/\q:=by cases k <;>exact h
def w6:List aP->Option (List kH)
 | []=>some []
 | .c (.one (.ptr c o))::l=>match w6 l with
  |some r=>some (.p c o::r)
  |none=>none
 | .c (.one (.d x))::l=>match w6 l with
  |some r=>some (.d x::r)
  |none=>none
 |_=>none
def t8:ay5->List aP
 | []=>[]
 |b::l=>.c (.one (.d (.aL (some b))))::t8 l
def oC:List kH->List aP
 | []=>[]
 | .p c o::l=>.c (.one (.ptr c o))::oC l
 | .d x::l=>.c (.one (.d x))::oC l
def Eh (op:BinOp) (x y:aP) (k:aP->fR->Prop):Prop:=match x,y with
 | .c (.one (.d (.int i a))),.c (.one (.d (.int j b)))=>match l2 i j,op with
  |true,.add=>nF i (a+b) (k (.c (.one (.d (.int i (a+b))))) bG)
  |true,.sub=>nF i (a - b) (k (.c (.one (.d (.int i (a - b))))) bG)
  |true,.mul=>nF i (a*b) (k (.c (.one (.d (.int i (a*b))))) bG)
  |true,.quo=>(0<=a/\0 < b)/\nF i (a/b) (k (.c (.one (.d (.int i (a/b))))) bG)
  |true,.rem=>(0<=a/\0 < b)/\nF i (a % b) (k (.c (.one (.d (.int i (a % b))))) bG)
  |_,.shl=>match l2 i .i64 with
   |true=>(0<=a/\0<=b/\b<=64)/\nF i (a*(2 ^b.toNat:Nat)) (k (.c (.one (.d (.int i (a*(2 ^b.toNat:Nat)))))) bG)
   |false=>False
  |_,.shr=>match l2 i .i64 with
   |true=>(0<=a/\0<=b/\b<=64)/\k (.c (.one (.d (.int i (a/(2 ^b.toNat:Nat)))))) bG
   |false=>False
  |true,.or=>match l2 i .i64 with
   |true=>(0<=a/\a<=9223372036854775807/\0<=b/\b<=9223372036854775807)/\k (.c (.one (.d (.int i ((a.toNat ||| b.toNat:Nat):Int))))) bG
   |false=>False
  |true,.eql=>k (.c (.one (.d (.bool (decide (a=b)))))) bG
  |true,.neq=>k (.c (.one (.d (.bool (!decide (a=b)))))) bG
  |true,.lss=>k (.c (.one (.d (.bool (decide (a < b)))))) bG
  |true,.leq=>k (.c (.one (.d (.bool (decide (a<=b)))))) bG
  |true,.gtr=>k (.c (.one (.d (.bool (decide (b < a)))))) bG
  |true,.geq=>k (.c (.one (.d (.bool (decide (b<=a)))))) bG
  |_,_=>False
 | .c (.one (.d (.str a))),.c (.one (.d (.str b)))=>match op with
  | .add=>a.length+b.length<=4294967296/\k (.c (.one (.d (.str (a++b))))) bG
  | .eql=>k (.c (.one (.d (.bool (decide (a=b)))))) bG
  | .neq=>k (.c (.one (.d (.bool (!decide (a=b)))))) bG
  | .lss=>k (.c (.one (.d (.bool (Op.bytesLess a b))))) bG
  | .leq=>k (.c (.one (.d (.bool (Op.bytesLess a b||decide (a=b)))))) bG
  | .gtr=>k (.c (.one (.d (.bool (!(Op.bytesLess a b||decide (a=b))))))) bG
  | .geq=>k (.c (.one (.d (.bool (!Op.bytesLess a b))))) bG
  |_=>False
 | .c (.one (.ptr _ _)),.c (.one (.bJ (.pointer none)))=>match op with
  | .eql=>k (.c (.one (.d (.lit false)))) bG
  | .neq=>k (.c (.one (.d (.lit true)))) bG
  |_=>False
 | .c (.one (.bJ (.pointer none))),.c (.one (.bJ (.pointer none)))=>match op with
  | .eql=>k (.c (.one (.d (.lit true)))) bG
  | .neq=>k (.c (.one (.d (.lit false)))) bG
  |_=>False
 |_,_=>False
def Iu (aS:dc) (T:Nat):Bool:=match aS.find T with
 |some ti=>match ti.kd with
  | .ptr _=>true
  |_=>false
 |none=>false
def yY (aS:dc) (T:Nat):Bool:=match aS.find T with
 |some ti=>match ti.kd with
  | .ptr e=>match aS.find e with
   |some _=>true
   |none=>false
  |_=>false
 |none=>false
def Ei (aS:dc) (T:Nat) (x:Option Nat) (y:aP) (k:Bool->Prop):Prop:=match y with
 | .c (.one (.bJ (.pointer none)))=>(∀b,x=some b->k false)/\(x=none->k true)
 | .c (.one (.d (.aL y)))=>match yY aS T with
  |true=>x=y/\k true
  |false=>False
 |_=>False
def Ej (aS:dc) (T:Nat) (op:BinOp) (x y:aP) (k:aP->fR->Prop):Prop:=match x with
 | .c (.one (.d (.aL x)))=>match op with
  | .eql=>Ei aS T x y fun b=>k (.c (.one (.d (.lit b)))) bG
  | .neq=>Ei aS T x y fun b=>k (.c (.one (.d (.lit !b)))) bG
  |_=>False
 |x=>Eh op x y k
def Ek (aS:dc) (T:Nat):Bool:=match aS.find T with
 |some ti=>match ti.kd with
  | .bool=>true
  |_=>false
 |none=>false
def El (op:BinOp) (a:Bool) (y:aP) (k:aP->fR->Prop):Prop:=match op,y with
 | .eql,.c (.one (.d (.bool b)))=>k (.c (.one (.d (.bool (a == b))))) bG
 | .eql,.c (.one (.d (.lit b)))=>k (.c (.one (.d (.bool (a == b))))) bG
 | .neq,.c (.one (.d (.bool b)))=>k (.c (.one (.d (.bool (!(a == b)))))) bG
 | .neq,.c (.one (.d (.lit b)))=>k (.c (.one (.d (.bool (!(a == b)))))) bG
 |_,_=>False
def Iv (aS:dc) (T f:Nat):Option (Nat×Nat):=match aS.find T with
 |some ti=>match ti.kd with
  | .st=>ti.mv[f]?
  |_=>none
 |none=>none
def elemOf (aS:dc) (T:Nat):Option (Nat×cb):=match aS.find T with
 |some ti=>match ti.kd with
  | .b7 e=>match aS.find e with
   |some te=>some (e,te)
   |none=>none
  |_=>none
 |none=>none
def w7 (aS:dc) (T:Nat):Bool:=match aS.find T with
 |some ti=>match ti.kd with
  | .str=>true
  |_=>false
 |none=>false
def w8 (aS:dc) (T:Nat):Option (Nat×Nat):=match aS.find T with
 |some ti=>match ti.kd with
  | .mp k e=>some (k,e)
  |_=>none
 |none=>none
def Iw (aS:dc) (T:Nat) (B:aw) (x:aP):Option (Nat×ay5):=match x with
 | .c (.one (.d (.str s)))=>match w7 aS T with
  |true=>some (s.length,[])
  |false=>none
 | .c (.one (.d (.ck _ xs)))=>match elemOf aS T with
  |some _=>some (xs.length,[])
  |none=>none
 | .c (.one .dD)=>match elemOf aS T with
  |some _=>some (0,[])
  |none=>none
 | .c (.one (.own c))=>match elemOf aS T with
  |some _=>match ag B c with
   |some (.row _ _ xs)=>some (xs.length,[c])
   |_=>none
  |none=>none
 | .c (.one (.mp c))=>match w8 aS T with
  |some _=>match ag B c with
   |some (.map _ _ es)=>some (es.length,[c])
   |_=>none
  |none=>none
 |_=>none
def qX (aS:dc) (e:Nat):Bool:=match aS.find e with
 |some te=>match te.kd,te.zero,te.size,te.bytes with
  | .int .u8,[.d (.int .u8 0)],1,1=>true
  |_,_,_,_=>false
 |none=>false
def Ix (aS:dc) (S T:Nat) (x:aP) (B:aw) (k:aP->fR->Prop):Prop:=match aS.find S,aS.find T with
 |some Ox,some ti=>match Ox.kd,ti.kd,x with
  | .int i,.int j,.c (.one (.d (.int _ n)))=>match l2 j .u8,l2 i .u8 with
   |true,false=>k (.c (.one (.d (.int j (n % 256))))) bG
   |_,_=>nF j n (k (.c (.one (.d (.int j n)))) bG)
  | .str,.b7 e,.c (.one (.d (.str s)))=>match qX aS e with
   |true=>s.length<=4294967296/\k (.c (.one (.d (.ck .u8 s)))) bG
   |false=>False
  | .b7 e,.str,.c (.one (.d (.ck .u8 s)))=>match qX aS e with
   |true=>k (.c (.one (.d (.str s)))) bG
   |false=>False
  | .b7 e,.str,.c (.one .dD)=>match qX aS e with
   |true=>k (.c (.one (.d (.str [])))) bG
   |false=>False
  | .b7 e,.str,.c (.one (.own c))=>match ag B c,qX aS e with
   |some (.row _ .u8 s),true=>k (.c (.one (.d (.str s)))) ⟨[c],[],[]⟩
   |_,_=>False
  |_,_,_=>False
 |_,_=>False
def yZ (n:Nat) (hm aH:Option aP):Option (Nat×Nat×Prop):=match hm,aH with
 |none,some (.c (.one (.d (.int .i64 j))))=>some (0,j.toNat,0<=j/\j<=n)
 |some (.c (.one (.d (.int .i64 i)))),none=>some (i.toNat,n,0<=i/\i<=n)
 |some (.c (.one (.d (.int .i64 i)))),some (.c (.one (.d (.int .i64 j))))=>some (i.toNat,j.toNat,0<=i/\i<=j/\j<=n)
 |none,none=>some (0,n,True)
 |_,_=>none
def Iy (aS:dc) (T:Nat) (x:aP) (hm aH:Option aP) (k:aP->fR->Prop):Prop:=match x with
 | .c (.one (.d (.str s)))=>match w7 aS T,yZ s.length hm aH with
  |true,some (l,h,p)=>p/\k (.c (.one (.d (.str ((s.take h).drop l))))) bG
  |_,_=>False
 | .c (.one (.d (.ck u xs)))=>match elemOf aS T,yZ xs.length hm aH with
  |some (_,te),some (l,h,p)=>match Nat.beq te.size (aQ u) with
   |true=>p/\k (.c (.one (.d (.ck u ((xs.take h).drop l))))) bG
   |false=>False
  |_,_=>False
 |_=>False
def Iz (aS:dc) (T:Nat) (x y:aP) (dst:Option Nat) (ids:ay5) (K:aY) (B:aw) (k:aP->fR->Prop):Prop:=match elemOf aS T,dst with
 |some (e,te),some d=>match te.u,y with
  |some u,.c (.one (.d (.ck v ys)))=>match qW v u with
   |some ⟨h⟩=>match x with
    | .c (.one .dD)=>ys.length<=4294967296/\gX ids K B d=true/\k (.c (.one (.own d))) ⟨[],[d],[(d,some (.row e u (nD h ys)))]⟩
    | .c (.one (.own c))=>match ag B c with
     |some (.row b5 s4 xs)=>match Nat.beq b5 e,qW s4 u with
      |true,some ⟨h'⟩=>xs.length+ys.length<=4294967296/\gX ids K B d=true/\k (.c (.one (.own d))) ⟨[c],[d],[(c,none),(d,some (.row e u (nD h' xs++nD h ys)))]⟩
      |_,_=>False
     |_=>False
    |_=>False
   |none=>False
  |some u,.c (.one (.own cG))=>match x with
   | .c (.one (.own c))=>match ag B c,ag B cG with
    |some (.row b5 s4 xs),some (.row ao v ys)=>match Nat.beq c cG,Nat.beq b5 e,qW v u,qW s4 u with
     |false,true,some ⟨h⟩,some ⟨h'⟩=>xs.length+ys.length<=4294967296/\gX ids K B d=true/\k (.c (.one (.own d))) ⟨[c,cG],[d],[(c,none),(d,some (.row e u (nD h' xs++nD h ys)))]⟩
     |_,_,_,_=>False
    |_,_=>False
   |_=>False
  |_,_=>False
 |_,_=>False
def IA (aS:dc) (T eS:Nat) (x y:aP) (dst:Option Nat) (ids:ay5) (K:aY) (B:aw) (k:aP->fR->Prop):Prop:=match elemOf aS T,w7 aS eS,dst with
 |some (e,te),true,some d=>match x,y with
  | .c (.one (.own c)),.c (.one (.d (.str s)))=>match qX aS e,ag B c with
   |true,some (.row b5 .u8 xs)=>match Nat.beq b5 e with
    |true=>List.length (α:=UInt8) xs+s.length<=4294967296/\gX ids K B d=true/\k (.c (.one (.own d))) ⟨[c],[d],[(c,none),(d,some (.row e .u8 (List.append (α:=UInt8) xs s)))]⟩
    |false=>False
   |_,_=>False
  |_,_=>False
 |_,_,_=>False
def w9:(aI:bx)->aP->Option (aa aI)
 | .int k,.c (.one (.d (.int dV n)))=>match l2 dV k with
  |true=>some n
  |false=>none
 | .str,.c (.one (.d (.str s)))=>some s
 |_,_=>none
def y0:(u:bx)->aa u->dI
 | .bQ u v,x=>.agg (gi (.bQ u v) x 0 (aQ (.bQ u v)))
 | .arr n u,x=>.agg (gi (.arr n u) x 0 (aQ (.arr n u)))
 | .int k,x=>.one (.d (fC (.int k) x 0))
 | .u8,x=>.one (.d (fC .u8 x 0))
 | .bool,x=>.one (.d (fC .bool x 0))
 | .str,x=>.one (.d (fC .str x 0))
 | .aL,x=>.one (.d (fC .aL x 0))
 | .dC,x=>.one (.d (fC .dC x 0))
 | .fn,x=>.one (.d (fC .fn x 0))
 | .b7 u,x=>.one (.d (fC (.b7 u) x 0))
def Em:bC->D->Bool
 | .d (.int k n),.int dV m=>l2 k dV&&decide (n=m)
 | .d (.str []),.str []=>true
 | .bJ (.pointer none),.aL none=>true
 | .dD,.dC none=>true
 | .d (.lit b),.bool c=>b == c
 | .dD,.ck _ []=>true
 |_,_=>false
def iz:List bC->List bC->Bool
 | [],[]=>true
 |s::l,.d x::m=>Em s x&&iz l m
 |_,_=>false
def xa (aS:dc) (kt:Nat) (aI:bx):Bool:=match aS.find kt with
 |some ti=>match ti.kd,aI with
  | .int k,.int dV=>l2 k dV
  | .str,.str=>true
  |_,_=>false
 |none=>false
def En (aS:dc) (et:Nat) (aK:bx):Bool:=match aS.find et with
 |some ti=>iz ti.zero (gi aK (cL aK) 0 (aQ aK))&&(ti.row == !mZ aK)&&(mZ aK||Nat.ble 2 (aQ aK))
 |none=>false
def IB (aS:dc) (T:Nat) (x i:aP) (ok:Bool) (B:aw) (k:aP->fR->Prop):Prop:=match x with
 | .c (.one (.mp c))=>match ag B c with
  |some (.map aI aK es)=>match w8 aS T,w9 aI i with
   |some (kt,et),some key=>match xa aS kt aI&&En aS et aK,ok with
    |true,true=>w1 (y0 aK ((b0 es key).getD (cL aK))) fun x=>k (.cf [x,.one (.d (.bool (b0 es key).isSome))]) ⟨[c],[],[]⟩
    |true,false=>w1 (y0 aK ((b0 es key).getD (cL aK))) fun x=>k (.c x) ⟨[c],[],[]⟩
    |false,_=>False
   |_,_=>False
  |_=>False
 |_=>False
def IC (u:bx) (x:aP):Option (aa u×Option Prop):=match x with
 | .c (.jV v y)=>match qW v u,mZ u with
  |some ⟨h⟩,false=>some (Ih h y,none)
  |_,_=>none
 | .c (.one s)=>match mZ u,nE u [s] with
  |true,some (y,[],p)=>some (y,p)
  |_,_=>none
 | .c (.agg l)=>match mZ u,nE u l with
  |false,some (y,[],p)=>some (y,p)
  |_,_=>none
 |_=>none
def ID (aS:dc) (T:Nat) (x i v:aP) (B:aw) (k:aP->fR->Prop):Prop:=match x with
 | .c (.one (.mp c))=>match ag B c with
  |some (.map aI aK es)=>match w8 aS T,w9 aI i with
   |some (kt,et),some key=>match xa aS kt aI,IC aK v with
    |true,some (y,p)=>t6 p/\k .undef ⟨[c],[],[(c,some (.map aI aK (dr es key y)))]⟩
    |true,none=>match v,mZ aK with
     | .c (.agg l),false=> ∃y:aa aK,(oy aK y/\l=gi aK y 0 (aQ aK))/\k .undef ⟨[c],[],[(c,some (.map aI aK (dr es key y)))]⟩
     |_,_=>False
    |false,_=>False
   |_,_=>False
  |_=>False
 |_=>False
def IE (aS:dc) (T:Nat) (x i:aP) (B:aw) (k:aP->fR->Prop):Prop:=match x with
 | .c (.one (.mp c))=>match ag B c with
  |some (.map aI aK es)=>match w8 aS T,w9 aI i with
   |some (kt,et),some key=>match xa aS kt aI with
    |true=>k (.cf []) ⟨[c],[],[(c,some (.map aI aK (gH es key)))]⟩
    |false=>False
   |_,_=>False
  |_=>False
 |_=>False
def IF (aS:dc) (T:Nat) (dst:Option Nat) (ids:ay5) (K:aY) (B:aw) (k:aP->fR->Prop):Prop:=match w8 aS T,dst with
 |some (kt,et),some d=>match aS.find kt,aS.find et with
  |some Oy,some vB=>match Oy.u,vB.u with
   |some aI,some aK=>gX ids K B d=true/\k (.c (.one (.mp d))) ⟨[],[d],[(d,some (.map aI aK []))]⟩
   |_,_=>False
  |_,_=>False
 |_,_=>False
def IG (aS:dc) (T c:Nat) (B:aw) (k:aP->fR->Prop):Prop:=match aS.find T with
 |some ti=>match ti.kd,ti.u with
  | .arr n e,some (.arr m v)=>match Nat.beq n m&&Nat.ble n 1000000&&Nat.blt 0 n,aS.find e,ag B c with
   |true,some _,some (.cells l)=> ∃ys:List (aa v),(oy (.arr n v) ys/\l=gi (.arr n v) ys 0 (aQ (.arr n v)))/\k (.c (.one (.d (.ck v ys)))) ⟨[c],[],[(c,none)]⟩
   |_,_,_=>False
  |_,_=>False
 |none=>False
def IH (aS:dc) (T:Nat) (x:aP) (k:aP->fR->Prop):Prop:=match aS.find T,x with
 |some ti,.c (.one (.d (.ck v xs)))=>match ti.kd with
  | .arr n _=>(0 < n/\n<=List.length xs)/\k (.c (.one (.el (.arr n v) (List.take n xs) 0))) bG
  |_=>False
 |_,_=>False
def bB (P:Program) (N:Nat) (ids:ay5) (o:Oper) (K:aY) (B:aw) (v:aP) (e:fR):Prop:=
 ∀(K':aY) (B':aw),(∀x,x∈o.op.operands->a6 K' x=a6 K x)->(∀c,c∈e.ig->ag B' c=ag B c)->(∀c,c∈e.bc->gX ids K' B' c=true)->
  ∀(C:e9) (a:Act) (w:World),eW N ids C K' B' a w->(∀d,o.dst=some d->d < N)-> ∀(fE:Act->World->Prop) (Q:Exit->Act->World->Prop),
   (∀a' w',eW N ids C (mt o.dst v K') (hb e.hA B') a' w'->fE a' w')->o.wp P a w fE Q
def laid (xs:ay4) (off n:Nat) (ys:ay4):ay4:=xs.take off++ys.take n++xs.drop (off+(ys.take n).length)
def Eo (c off n:Nat) (ys:ay4) (B:aw) (k:aP->fR->Prop):Prop:=match ag B c with
 |some (.row e .u8 xs)=>off+n<=xs.length/\k (.c (.one .any)) ⟨[c],[],[(c,some (.row e .u8 (laid xs off n ys)))]⟩
 |_=>False
def II (aS:dc) (T:Nat) (x y:aP) (B:aw) (k:aP->fR->Prop):Prop:=match elemOf aS T with
 |some (e,_)=>match qX aS e,y with
  |true,.c (.one (.d (.ck .u8 ys)))=>match x with
   | .c (.one (.own c))=>match ag B c with
    |some (.row _ .u8 xs)=>Eo c 0 (List.length xs) ys B k
    |_=>False
   | .c (.one (.os c s off n))=>match Nat.beq s 1 with
    |true=>Eo c off n ys B k
    |false=>False
   |_=>False
  |_,_=>False
 |none=>False
def Ep (P:Program) (ids:ay5) (o:Oper) (K:aY) (B:aw) (k:aP->fR->Prop):Prop:=
 ∃v e,(∀N,bB P N ids o K B v e)/\rX ids K B e.bc=true/\oB v fun v=>k v e
def IJ (P:Program) (aS:dc) (ids:ay5) (o:Oper) (K:aY) (B:aw) (k:aP->fR->Prop):Prop:=match o.op with
 | .move x=>oB (a6 K x) fun v=>k v bG
 | .assign x=>oB (a6 K x) fun v=>k v bG
 | .pick c x y=>match a6 K c with
  | .c (.one (.d (.lit true)))=>oB (a6 K x) fun v=>k v bG
  | .c (.one (.d (.lit false)))=>oB (a6 K y) fun v=>k v bG
  |_=>False
 | .binOp op T x y _=>match op,Iu aS T with
  | .eql,true=>Ej aS T .eql (a6 K x) (a6 K y) k
  | .neq,true=>Ej aS T .neq (a6 K x) (a6 K y) k
  |op,false=>match a6 K x with
   | .c (.one (.ptr _ _))=>False
   | .c (.one (.bJ _))=>False
   | .c (.one (.d (.bool a)))=>match Ek aS T with
    |true=>El op a (a6 K y) k
    |false=>False
   | .c (.one (.d (.lit a)))=>match Ek aS T with
    |true=>El op a (a6 K y) k
    |false=>False
   |_=>Eh op (a6 K x) (a6 K y) k
  |_,_=>False
 | .unOp .not _ x=>match a6 K x with
  | .c (.one (.d (.lit true)))=>k (.c (.one (.d (.lit false)))) bG
  | .c (.one (.d (.lit false)))=>k (.c (.one (.d (.lit true)))) bG
  | .c (.one (.d (.bool b)))=>k (.c (.one (.d (.bool (!b))))) bG
  |_=>False
 | .extract x i=>match a6 K x with
  | .cf l=>match l[i]? with
   |some v=>k (.c v) bG
   |none=>False
  |_=>False
 | .nilCheck x=>match a6 K x with
  | .c (.one (.ptr c o))=>k (.c (.one (.ptr c o))) bG
  | .c (.one (.el u y o))=>k (.c (.one (.el u y o))) bG
  | .c (.one (.f2 c s i o))=>k (.c (.one (.f2 c s i o))) bG
  |_=>False
 | .fieldAddr T x f=>match Iv aS T f with
  |some (d,_)=>match a6 K x with
   | .c (.one (.ptr c o))=>k (.c (.one (.ptr c (o+d)))) bG
   | .c (.one (.el u y o))=>k (.c (.one (.el u y (o+d)))) bG
   | .c (.one (.f2 c s i o))=>k (.c (.one (.f2 c s i (o+d)))) bG
   |_=>False
  |none=>False
 | .load T x=>match aS.find T with
  |some ti=>match a6 K x with
   | .c (.one (.ptr c o))=>match ag B c with
    |some (.cells l)=>match ti.row with
     |true=>match Nat.ble (o+ti.size) l.length with
      |true=>pm ((l.drop o).take ti.size) fun l=>k (.c (.agg l)) ⟨[c],[],[]⟩
      |false=>False
     |false=>match l[o]? with
      |some s=>yV s fun s=>k (.c (.one s)) ⟨[c],[],[]⟩
      |none=>False
    |_=>False
   | .c (.one (.el u y o))=>match ti.row with
    |true=>match Nat.ble (o+ti.size) (aQ u) with
     |true=>pm (gi u y o ti.size) fun l=>k (.c (.agg l)) bG
     |false=>False
    |false=>match Nat.blt o (aQ u) with
     |true=>yU (fC u y o) fun x=>k (.c (.one (.d x))) bG
     |false=>False
   | .c (.one (.f2 c s i o))=>match ag B c with
    |some (.row _ u xs)=>match Nat.beq s (aQ u) with
     |true=> ∃y,fD xs i=some y/\match ti.row with
      |true=>match Nat.ble (o+ti.size) (aQ u) with
       |true=>pm (gi u y o ti.size) fun l=>k (.c (.agg l)) ⟨[c],[],[]⟩
       |false=>False
      |false=>match Nat.blt o (aQ u) with
       |true=>yU (fC u y o) fun x=>k (.c (.one (.d x))) ⟨[c],[],[]⟩
       |false=>False
     |false=>False
    |_=>False
   |_=>False
  |none=>False
 | .store T x v=>match aS.find T with
  |some ti=>match a6 K x with
   | .c (.one (.ptr c o))=>match ag B c with
    |some (.cells l)=>match vz (a6 K v) with
     |some cs=>match Nat.beq cs.length ti.size,Nat.ble (o+cs.length) l.length with
      |true,true=>pm (Ba l o cs) fun l=>k .undef ⟨[c],[],[(c,some (.cells l))]⟩
      |_,_=>False
     |none=>False
    |_=>False
   | .c (.one (.f2 c s i o))=>match ag B c with
    |some (.row e u xs)=>match Nat.beq (aQ u) 1,Nat.beq s 1,Nat.beq o 0,Nat.beq ti.size 1,a6 K v with
     |true,true,true,true,.c (.one pn)=>match nE u [pn] with
      |some (y,[],p)=>(t6 p/\i < xs.length)/\k .undef ⟨[c],[],[(c,some (.row e u (xs.set i y)))]⟩
      |_=>False
     |_,_,_,_,_=>False
    |_=>False
   |_=>False
  |none=>False
 | .alloc T=>match aS.find T,o.dst with
  |some ti,some d=>gX ids K B d=true/\k (.c (.one (.ptr d 0))) ⟨[],[d],[(d,some (.cells ti.zero))]⟩
  |_,_=>False
 | .box T x=>match aS.find T,o.dst,vz (a6 K x) with
  |some ti,some d,some l=>match Nat.beq l.length ti.size with
   |true=>gX ids K B d=true/\k (.c (.one (.ptr d 0))) ⟨[],[d],[(d,some (.cells l))]⟩
   |false=>False
  |_,_,_=>False
 | .build T bE=>match aS.find T with
  |some ti=>match ti.kd,vA K (fun f=>ti.mv[f]?) bE.toList ti.zero with
   | .st,some l=>pm l fun l=>k (.c (.agg l)) bG
   |_,_=>False
  |none=>False
 | .buildSlice T 0 bE=>match bE.toList with
  | []=>match elemOf aS T,o.dst with
   |some (e,te),some d=>match te.u with
    |some u=>gX ids K B d=true/\k (.c (.one (.own d))) ⟨[],[d],[(d,some (.row e u []))]⟩
    |none=>False
   |_,_=>False
  |_=>False
 | .buildSlice T n bE=>match elemOf aS T with
  |some (_,te)=>match te.u with
   |some u=>match Nat.ble (n*te.size) 1000,vA K (fun i=>some (i*te.size,te.size)) bE.toList (Eg n te.zero) with
    |true,some l=>match w3 u n l with
     |some (xs,none)=>k (.c (.one (.d (.ck u xs)))) bG
     |some (xs,some p)=>p/\k (.c (.one (.d (.ck u xs)))) bG
     |none=>n=1/\ ∃y:aa u,(oy u y/\l=gi u y 0 (aQ u))/\k (.c (.one (.d (.ck u [y])))) bG
    |_,_=>False
   |none=>False
  |none=>False
 | .indexAddr T x i=>match elemOf aS T,a6 K i with
  |some (_,te),.c (.one (.d (.int .i64 n)))=>match a6 K x with
   | .c (.one (.d (.ck u xs)))=>match Nat.beq te.size (aQ u) with
    |true=>0<=n/\ ∃y,fD xs n.toNat=some y/\k (.c (.one (.el u y 0))) bG
    |false=>False
   | .c (.one (.own c))=>match ag B c with
    |some (.row _ u xs)=>match Nat.beq te.size (aQ u) with
     |true=>(0<=n/\n < xs.length)/\k (.c (.one (.f2 c (aQ u) n.toNat 0))) ⟨[c],[],[]⟩
     |false=>False
    |_=>False
   |_=>False
  |_,_=>False
 | .index T x i=>match w7 aS T,a6 K x,a6 K i with
  |true,.c (.one (.d (.str s))),.c (.one (.d (.int .i64 n)))=>0<=n/\ ∃y,fD s n.toNat=some y/\k (.c (.one (.d (.int .u8 (UInt8.toNat y:Int))))) bG
  |_,_,_=>False
 | .slice T x hm aH none=>match a6 K x with
  | .c (.one (.own c))=>match elemOf aS T,ag B c with
   |some (_,te),some (.row _ u xs)=>match yZ xs.length (hm.map (a6 K)) (aH.map (a6 K)),Nat.beq te.size (aQ u) with
    |some (l,h,p),true=>p/\k (.c (.one (.os c (aQ u) l (h - l)))) ⟨[c],[],[]⟩
    |_,_=>False
   |_,_=>False
  | .c (.one (.ptr c o))=>match hm,aH,Nat.beq o 0 with
   |none,none,true=>IG aS T c B k
   |_,_,_=>False
  |_=>Iy aS T (a6 K x) (hm.map (a6 K)) (aH.map (a6 K)) k
 | .sliceToArrayPointer T x=>IH aS T (a6 K x) k
 | .convert S T x=>Ix aS S T (a6 K x) B k
 | .lookup T x i ok=>IB aS T (a6 K x) (a6 K i) ok B k
 | .mapUpdate T x i v=>ID aS T (a6 K x) (a6 K i) (a6 K v) B k
 | .makeMap T none=>IF aS T o.dst ids K B k
 | .makeFunc (.func f) fs cs=>match fs.toList,w6 (cs.toList.map (a6 K)) with
  | [],some l=>k (.c (.one (.cU f l))) bG
  |_,_=>False
 | .makeSlice T x y=>match elemOf aS T,a6 K x,a6 K y,o.dst with
  |some (e,te),.c (.one (.d (.int .i64 n))),.c (.one (.d (.int .i64 m))),some d=>match qX aS e with
   |true=>(n=m/\0<=n/\n<=4294967296)/\gX ids K B d=true/\k (.c (.one (.own d))) ⟨[],[d],[(d,some (.row e .u8 (List.replicate n.toNat (0:UInt8))))]⟩
   |false=>False
  |_,_,_,_=>False
 | .call c=>match c.callee,c.args.toList with
  | .value (.func f),xs=>w4 P f (xs.map (a6 K)) ids K B k
  | .value (.tmp t),xs=>match dA K t with
   | .c (.one (.cU f l))=>w4 P f (xs.map (a6 K)++oC l) ids K B k
   | .c (.one (.d (.fn x)))=>w4 P x.1 (xs.map (a6 K)++t8 x.2) ids K B k
   |_=>False
  | .builtin .len,[x]=>match c.argTypes.toList with
   | [T]=>match Iw aS T B (a6 K x) with
    |some (n,ig)=>k (.c (.one (.d (.int .i64 (n:Int))))) ⟨ig,[],[]⟩
    |none=>False
   |_=>False
  | .builtin .delete,[x,y]=>match c.argTypes.toList with
   | [T,_]=>IE aS T (a6 K x) (a6 K y) B k
   |_=>False
  | .builtin .min,[x,y]=>match a6 K x,a6 K y with
   | .c (.one (.d (.int .i64 a))),.c (.one (.d (.int .i64 b)))=>k (.c (.one (.d (.int .i64 (min a b))))) bG
   |_,_=>False
  | .builtin .max,[x,y]=>match a6 K x,a6 K y with
   | .c (.one (.d (.int .i64 a))),.c (.one (.d (.int .i64 b)))=>k (.c (.one (.d (.int .i64 (max a b))))) bG
   |_,_=>False
  | .builtin .copy,[x,y]=>match c.argTypes.toList with
   | [T,eS]=>II aS T (a6 K x) (a6 K y) B k
   |_=>False
  | .builtin .append,[x,y]=>match c.argTypes.toList with
   | [T,eS]=>match Nat.beq T eS with
    |true=>Iz aS T (a6 K x) (a6 K y) o.dst ids K B k
    |false=>IA aS T eS (a6 K x) (a6 K y) o.dst ids K B k
   |_=>False
  |_,_=>Ep P ids o K B k
 |_=>Ep P ids o K B k
def Er (K:aY) (B:aw) (x:Operand):Bool:=match a6 K x with
 | .c (.one (.mp c))=>match ag B c with
  |some (.aG _)=>true
  |_=>false
 |_=>false
def Es:aP->Bool
 | .c (.one (.d (.aL _)))=>true
 | .c (.one (.bJ _))=>true
 |_=>false
def Oz (K:aY) (B:aw) (x:Operand):Bool:=match a6 K x with
 | .c (.one (.ptr c _))=>match ag B c with
  |some (.val _ _)=>true
  |_=>false
 | .c (.one (.f2 c _ _ _))=>match ag B c with
  |some (.val _ _)=>true
  |_=>false
 |_=>false
def XM (K:aY) (B:aw) (x:Operand):Bool:=match a6 K x with
 | .c (.one (.f2 c _ _ _))=>match ag B c with
  |some (.row _ u _)=> !Nat.beq (aQ u) 1
  |_=>false
 |_=>false
def OA:aP->Bool
 | .c (.agg _)=>true
 | .c (.jV _ _)=>true
 |_=>false
def IK (K:aY) (f:Nat):Bool:=match dA K (1000000+f) with
 | .undef=>true
 |_=>false
def XN (aS:dc) (o:Oper) (K:aY) (B:aw):Bool:=match o.op with
 | .lookup _ x _ _=>Er K B x
 | .mapUpdate _ x _ _=>Er K B x
 | .indexAddr _ x _=>match a6 K x with
  | .c (.one (.ptr _ _))=>true
  |_=>false
 | .nilCheck x=>Es (a6 K x)
 | .fieldAddr _ x _=>Es (a6 K x)
 | .load _ x=>Es (a6 K x)||Oz K B x
 | .store _ x _=>Es (a6 K x)||Oz K B x||XM K B x
 | .binOp op _ x y _=>match op with
  | .and=>true
  |_=>match y with
   | .const .nilFunc=>true
   | .const .nilIface=>true
   |_=>OA (a6 K x)||(match o.dst with
    |some d=>IK K (2000000+d)
    |none=>false)
 | .index _ x _=>OA (a6 K x)
 | .makeSlice T _ _=>match elemOf aS T with
  |some (e,_)=> !qX aS e
  |none=>false
 | .build T _=>match aS.find T with
  |some ti=>match ti.kd with
   | .arr _ _=>true
   |_=>false
  |none=>false
 | .buildSlice _ _ _=>match o.dst with
  |some d=>IK K (1000000+d)
  |none=>false
 | .call c=>match c.callee,c.args.toList with
  | .builtin .delete,x::_=>Er K B x
  | .builtin .len,x::_=>Er K B x
  | .value (.func f),_=>IK K f
  | .value (.tmp t),_=>match dA K t with
   | .c (.one (.bJ _))=>true
   |_=>false
  |_,_=>false
 | .makeFunc _ fs _=>match fs.toList with
  | []=>false
  |_=>true
 |_=>false
def Et (P:Program) (aS:dc) (ids:ay5) (o:Oper) (K:aY) (B:aw) (k:aP->fR->Prop):Prop:=match XN aS o K B with
 |true=>Ep P ids o K B k
 |false=>IJ P aS ids o K B k
def Bc (all:List Oper) (j:Nat):Option Nat:=match all[j]? with
 |some o=>o.dst
 |none=>none
def Eu (i:Nat):List Oper->Bool
 | []=>false
 |o::l=>match o.guard with
  |some (j,_)=>match Nat.beq j i with
   |true=>true
   |false=>Eu i l
  |none=>Eu i l
def t' (all:List Oper) (K:aY) (g:Option (Nat×Bool)):Option Bool:=match g with
 |none=>some true
 |some (j,want)=>match Bc all j with
  |none=>none
  |some s=>match dA K s,want with
   | .c (.one (.d (.lit true))),true=>some true
   | .c (.one (.d (.lit true))),false=>some false
   | .c (.one (.d (.lit false))),true=>some false
   | .c (.one (.d (.lit false))),false=>some true
   | .undef,_=>some false
   |_,_=>none
structure kL where
 i:Nat
 v:aP
 e:fR
noncomputable def Ev (P:Program) (aS:dc) (ids:ay5) (all:List Oper) (o:Oper) (l:List Oper) (br:Nat->aY->aw->List kL->Prop) (i:Nat) (K:aY) (B:aw) (gj:List kL):Prop:=
 match t' all K o.guard with
 |none=>False
 |some false=>match o.dst with
  |some d=>br (i+1) ((d,.undef)::K) B (⟨i,.undef,bG⟩::gj)
  |none=>br (i+1) K B (⟨i,.undef,bG⟩::gj)
 |some true=>Et P aS ids o K B fun v e=>match o.dst with
  |none=>w2 e.hA B fun B=>br (i+1) K B (⟨i,.undef,e⟩::gj)
  |some d=>match Eu i l,v with
   |true,.c (.one (.d (.bool b)))=>
    w2 e.hA B fun B=>(b=true->br (i+1) ((d,.c (.one (.d (.lit true))))::K) B (⟨i,.c (.one (.d (.lit true))),e⟩::gj))/\
    (b=false->br (i+1) ((d,.c (.one (.d (.lit false))))::K) B (⟨i,.c (.one (.d (.lit false))),e⟩::gj))
   |_,v=>w2 e.hA B fun B=>br (i+1) ((d,v)::K) B (⟨i,v,e⟩::gj)
noncomputable def s6 (P:Program) (aS:dc) (ids:ay5) (all:List Oper) (i:Nat) (l:List Oper) (K:aY) (B:aw) (gj:List kL) (k:aY->aw->List kL->Prop):Prop:=
 List.rec (motive:=fun _=>Nat->aY->aw->List kL->Prop) (fun _ K B gj=>k K B gj) (fun o l br i K B gj=>Ev P aS ids all o l br i K B gj) l i K B gj
theorem OB {P:Program} {aS:dc} {ids:ay5} {all:List Oper} {i:Nat} {o:Oper} {l:List Oper} {K:aY} {B:aw} {gj:List kL} {k:aY->aw->List kL->Prop}:
 s6 P aS ids all i (o::l) K B gj k=Ev P aS ids all o l (fun i K B gj=>s6 P aS ids all i l K B gj k) i K B gj:=rfl
inductive nG where
 |gY
 |ex (id:Nat)
 |ret
def nG.to:nG->Exit
 | .gY=>.normal
 | .ex id=>.exit id
 | .ret=>.ret
abbrev oD (r:Option Nat):Fence:={fn:=fun _=>True,depth:=none,alive:=false,round:=r}
abbrev e9.at (C:e9) (ds:ay5):e9:={C with ds:=ds}
def ua (ids:ay5):Bool:=ids.contains 0
def bt (P:Program) (N:Nat) (ids:ay5) (c:Code) (K:aY) (B:aw) (Q:nG->aY->aw->Prop):Prop:=
 ∀r:Option Nat,(ua ids=false->r=none)-> ∀(C:e9) (h1:Exit->Act->World->Prop),(∀e K' B' ds,(ua ids=true->ds=C.ds)->Q e K' B'-> ∀a w,eW N ids (C.at ds) K' B' a w->h1 e.to a w)-> ∀a w,eW N ids C K B a w->c.wpIn (oD r) 0 P h1 a w
def Ew (all:List Oper) (o:Oper):ay5:=(o.op.operands.toList.filterMap fun
 | .tmp t=>some t
 |_=>none)++(match o.guard with
 |some (j,_)=>(Bc all j).toList
 |none=>[])
def p4 (o:Oper):ay5:=(o.after.toList.filter fun e=>Region.binds .any e).map (·.on)
def y1:List Oper->List ay5->List ay5
 | [],acc=>acc
 |o::l,acc=>y1 l (acc++[p4 o++(p4 o).flatMap fun d=>acc.getD d []])
def Ex (e:fR):ay5:=e.hA.map (·.1)
def y2 (a b:ay5):Bool:=a.any fun x=>b.contains x
def y3 (c:Nat):List (Nat×Option bb)->Bool
 | []=>false
 |(d,none)::l=>Nat.beq d c||y3 c l
 |(d,some ch)::l=>Nat.beq d c||ch.has c||y3 c l
def named (n:kL) (c:Nat):Bool:=n.v.has c||y3 c n.e.hA
def apart (all:List Oper) (o p:Oper) (n m:kL):Bool:=
 !y2 o.dst.toList (Ew all p++p.dst.toList)&& !y2 p.dst.toList (Ew all o)&& !y2 (Ex n.e) (m.e.ig++Ex m.e)&& !y2 (Ex m.e) n.e.ig&& !n.e.bc.any (named m)&& !m.e.bc.any (named n)
def ub (all:List Oper) (an:List ay5):List (Oper×kL×Nat)->Bool
 | []=>true
 |(o,n,i)::l=>(l.all fun(p,m,j)=>(an.getD j []).contains i&& !m.e.bc.any (named n)||apart all o p n m)&&ub all an l
def vC (K:aY) (B:aw) (c':List Oper) (gj:List kL):Bool:=
 let es:=gj.reverse
 (c'.zipIdx.all fun(o,i)=>(p4 o).all fun d=>Nat.blt d i)&&(es.all fun n=>n.e.bc.all fun c=>t2 c K&&ki c B)&&ub c' (y1 c' []) ((c'.zip es).zipIdx.map fun((o,n),i)=>(o,n,i))
abbrev Bd:=nG->aY->aw->Prop
noncomputable def jm (P:Program) (aS:dc) (N:Nat) (ids:ay5) (stops:ay5) (c:Code):aY->aw->Bd->Prop:=
 Code.rec (motive:=fun _=>aY->aw->Bd->Prop)
  (fun K B Q=>Q .gY K B)
  (fun id c' draw K B Q=>match stops.contains id with
   |true=>bt P N ids (.region id c' draw) K B Q
   |false=>match draw with
    |false=>s6 P aS ids c'.toList 0 c'.toList K B [] fun K B _=>Q .gY K B
    |true=>s6 P aS ids c'.toList 0 c'.toList K B [] fun K' B' gj=>vC K B c'.toList gj=true/\Q .gY K' B')
  (fun _ _ uc Be K B Q=>uc K B fun e K B=>match e with
   | .gY=>Be K B Q
   | .ex i=>Q (.ex i) K B
   | .ret=>Q .ret K B)
  (fun c _ _ OC OD K B Q=>match a6 K c with
   | .c (.one (.d (.lit true)))=>OC K B Q
   | .c (.one (.d (.lit false)))=>OD K B Q
   | .c (.one (.d (.bool b)))=>(b=true->OC K B Q)/\(b=false->OD K B Q)
   |_=>False)
  (fun i _ Be K B Q=>Be K B fun e K B=>match e with
   | .ex j=>match Nat.beq j i with
    |true=>Q .gY K B
    |false=>Q (.ex j) K B
   | .gY=>Q .gY K B
   | .ret=>Q .ret K B)
  (fun b _ K B Q=>bt P N ids (.loop b) K B Q)
  (fun f bE x b _ _ K B Q=>bt P N ids (.rangeFunc f bE x b) K B Q)
  (fun i K B Q=>Q (.ex i) K B)
  (fun _ Be K B Q=>Be K B Q)
  (fun _ K B Q=>Q .gY K B)
  (fun _ _ _ _=>False)
  (fun K B Q=>Q .ret K B)
  (fun _ _ _ _=>False) c
section
variable {P:Program} {aS:dc} {N:Nat} {ids stops:ay5} {K:aY} {B:aw} {Q:Bd}
theorem XO {id:Nat} {c':Array Oper} {draw:Bool}:jm P aS N ids stops (.region id c' draw) K B Q=(match stops.contains id with
 |true=>bt P N ids (.region id c' draw) K B Q
 |false=>match draw with
  |false=>s6 P aS ids c'.toList 0 c'.toList K B [] fun K B _=>Q .gY K B
  |true=>s6 P aS ids c'.toList 0 c'.toList K B [] fun K' B' gj=>vC K B c'.toList gj=true/\Q .gY K' B'):=rfl
theorem XP {a b:Code}:jm P aS N ids stops (.seq a b) K B Q=jm P aS N ids stops a K B fun e K B=>match e with
 | .gY=>jm P aS N ids stops b K B Q
 | .ex i=>Q (.ex i) K B
 | .ret=>Q .ret K B:=rfl
theorem XQ {c:Operand} {x y:Code}:jm P aS N ids stops (.cond c x y) K B Q=(match a6 K c with
 | .c (.one (.d (.lit true)))=>jm P aS N ids stops x K B Q
 | .c (.one (.d (.lit false)))=>jm P aS N ids stops y K B Q
 | .c (.one (.d (.bool b)))=>(b=true->jm P aS N ids stops x K B Q)/\(b=false->jm P aS N ids stops y K B Q)
 |_=>False):=rfl
theorem XR {i:Nat} {b:Code}:jm P aS N ids stops (.block i b) K B Q=jm P aS N ids stops b K B fun e K B=>match e with
 | .ex j=>match Nat.beq j i with
  |true=>Q .gY K B
  |false=>Q (.ex j) K B
 | .gY=>Q .gY K B
 | .ret=>Q .ret K B:=rfl
theorem XS {b:Code}:jm P aS N ids stops (.scope b) K B Q=jm P aS N ids stops b K B Q:=rfl
end
end Go.Proofs.YthnboghbhgapcaaGreat
