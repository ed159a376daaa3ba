/-
A part of the proof of this claim: lemmas, with no condition beyond what each says.
-/
import Derived.Test.YtkfbeijmgggkmaaGreatZc1
set_option linter.unusedVariables false
set_option linter.unusedSimpArgs false
set_option maxRecDepth 10000
set_option maxHeartbeats 4000000
namespace Go.Proofs.YtkfbeijmgggkmaaGreat
open Go.RowKit
inductive Ps where
 |int (k:IntKind)
 |bool
 |str
 |ptr (e:Nat)
 |b4 (e:Nat)
 |st
 |arr (n e:Nat)
 |mp (k e:Nat)
 |other
structure b8 where
 kd:Ps
 size:Nat
 row:Bool
 zero:List bC
 mP:List (Nat×Nat)
 u:Option bA
 bytes:Nat
inductive dl where
 |leaf
 |node (l:dl) (k:Nat) (x:b8) (r:dl)
def dl.find:dl->Nat->Option b8
 | .leaf,_=>none
 | .node l k x r,n=>match Nat.blt n k with
  |true=>l.find n
  |false=>match Nat.beq n k with
   |true=>some x
   |false=>r.find n
def zy (x:D) (k:D->Prop):Prop:=match x with
 | .int i n=>k (.int i n)
 | .lit true=>k (.lit true)
 | .lit false=>k (.lit false)
 | .bool b=>k (.bool b)
 | .str s=>k (.str s)
 | .aL x=>k (.aL x)
 | .dL x=>k (.dL x)
 | .fn x=>k (.fn x)
 | .cf u xs=>k (.cf u xs)
def zz (s:bC) (k:bC->Prop):Prop:=match s with
 | .d x=>zy x fun x=>k (.d x)
 | .ptr c o=>k (.ptr c o)
 | .own c=>k (.own c)
 | .el u x o=>k (.el u x o)
 | .gj c s i o=>k (.gj c s i o)
 | .os c s o n=>k (.os c s o n)
 | .mp c=>k (.mp c)
 | .cY f l=>k (.cY f l)
 | .dH=>k .dH
 | .bM v=>k (.bM v)
 | .any=>k .any
def pJ (l:List bC) (k:List bC->Prop):Prop:=match l with
 | []=>k []
 |s::l=>zz s fun s=>pJ l fun l=>k (s::l)
def xp (x:dQ) (k:dQ->Prop):Prop:=match x with
 | .one s=>zz s fun s=>k (.one s)
 | .agg l=>pJ l fun l=>k (.agg l)
 | .kc u x=>k (.kc u x)
def EN (l:List dQ) (k:List dQ->Prop):Prop:=match l with
 | []=>k []
 |s::l=>xp s fun s=>EN l fun l=>k (s::l)
def oV (x:aO) (k:aO->Prop):Prop:=match x with
 | .c x=>xp x fun x=>k (.c x)
 | .cb l=>EN l fun l=>k (.cb l)
 | .undef=>k .undef
theorem I5 (x:D) (k:D->Prop):zy x k=k x:=by
 cases x with
 |lit b=>cases b <;>rfl
 |_=>rfl
theorem I6 (x:bC) (k:bC->Prop):zz x k=k x:=by
 cases x with
 |d x=>simp only[zz,I5]
 |_=>rfl
theorem zA (l:List bC) (k:List bC->Prop):pJ l k=k l:=by
 induction l generalizing k with
 |nil=>rfl
 |cons s l bu=>simp only[pJ,I6,bu]
theorem EO (x:dQ) (k:dQ->Prop):xp x k=k x:=by
 cases x with
 |one x=>simp only[xp,I6]
 |agg l=>simp only[xp,zA]
 |kc u x=>rfl
theorem YF (l:List dQ) (k:List dQ->Prop):EN l k=k l:=by
 induction l generalizing k with
 |nil=>rfl
 |cons s l bu=>simp only[EN,EO,bu]
theorem sq (x:aO) (k:aO->Prop):oV x k=k x:=by
 cases x with
 |c x=>simp only[oV,EO]
 |cb l=>simp only[oV,YF]
 |undef=>rfl
structure fY where
 ix:aA1
 bb:aA1
 hL:List (Nat×Option ba)
abbrev bJ:fY:=⟨[],[],[]⟩
def hl:List (Nat×Option ba)->ay->ay
 | [],B=>B
 |(c,none)::l,B=>hl l (gY B c)
 |(c,some ch)::l,B=>hl l ((c,ch)::B)
def zB (c:Nat):aA1->Bool
 | []=>false
 |d::l=>match Nat.beq c d with
  |true=>true
  |false=>zB c l
def uq (ks:aA1):ay->ay
 | []=>[]
 |(c,ch)::B=>match zB c ks with
  |true=>uq ks B
  |false=>(c,ch)::uq ks B
theorem EP: ∀B:ay,uq [] B=B
 | []=>rfl
 |(c,ch)::B=>congrArg ((c,ch):: ·) (EP B)
theorem Pt (c:Nat) (ks:aA1): ∀B:ay,uq (c::ks) B=gY (uq ks B) c
 | []=>rfl
 |(d,ch)::B=>by
  have bu:=Pt c ks B;simp only[uq,zB]
  cases E:Nat.beq d c <;>cases G:zB d ks <;>simp only[gY,E,bu]
noncomputable def EQ (ks:aA1) (B:ay) (k:ay->Prop):Prop:=match ks with
 | []=>k B
 |ks=>List.rec (motive:=fun _=>(ay->Prop)->Prop) (fun k=>k []) (fun p _ bu k=>match p with
  |(c,ch)=>match zB c ks with
   |true=>bu k
   |false=>bu fun l=>k ((c,ch)::l)) B k
theorem Pu (ks:aA1) (B:ay) (k:ay->Prop):EQ ks B k=k (uq ks B):=by
 match ks with
 | []=>exact congrArg k (EP B).symm
 |d::ks=>
  show List.rec (motive:=fun _=>(ay->Prop)->Prop) _ _ B k=_
  induction B generalizing k with
  |nil=>rfl
  |cons p l bu=>
   obtain⟨c,ch⟩:=p;simp only[uq]
   cases h:zB c (d::ks)
   .exact bu _
   .exact bu _
noncomputable def I7 (hL:List (Nat×Option ba)) (ks:aA1) (B:ay) (k:ay->Prop):Prop:=
 List.rec (motive:=fun _=>aA1->ay->Prop) (fun ks B=>EQ ks B k) (fun p _ bu ks B=>match p with
  |(c,none)=>bu (c::ks) B
  |(c,some ch)=>EQ ks B fun B=>bu [] ((c,ch)::B)) hL ks B
noncomputable def xq (hL:List (Nat×Option ba)) (B:ay) (k:ay->Prop):Prop:=I7 hL [] B k
theorem YG (hL:List (Nat×Option ba)) (k:ay->Prop): ∀(ks:aA1) (B:ay),I7 hL ks B k=k (hl hL (uq ks B)):=by
 induction hL with
 |nil=>exact fun ks B=>Pu ks B k
 |cons p l bu=>
  intro ks B;obtain⟨c,o⟩:=p
  cases o with
  |none=>exact(bu (c::ks) B).trans (by rw[Pt];rfl)
  |some ch=>
   show EQ ks B (fun B=>I7 l [] ((c,ch)::B) k)=_;rw[Pu,bu,EP];rfl
theorem I8 (hL:List (Nat×Option ba)) (B:ay) (k:ay->Prop):xq hL B k=k (hl hL B):=(YG hL k [] B).trans (by rw[EP])
def ur (c:Nat):aX->Bool
 | []=>true
 |(_,v)::K=> !v.has c&&ur c K
def kw (c:Nat):ay->Bool
 | []=>true
 |(d,ch)::B=> !Nat.beq d c&& !ch.has c&&kw c B
def g9 (ids:aA1) (K:aX) (B:ay) (c:Nat):Bool:=ur c K&&kw c B&& !ids.contains c
abbrev kS (s:bC):aO:=.c (.one s)
abbrev ac (n:Int):aO:=.c (.one (.d (.int .i64 n)))
abbrev fk (b:Bool):aO:=.c (.one (.d (.bool b)))
abbrev ro (b:Bool):aO:=.c (.one (.d (.lit b)))
abbrev bQ (s:aA0):aO:=.c (.one (.d (.str s)))
abbrev bv (u:bA) (xs:List (aa u)):aO:=.c (.one (.d (.cf u xs)))
abbrev ah (c:Nat):aO:=.c (.one (.ptr c 0))
abbrev eX (c:Nat):aO:=.c (.one (.own c))
def bC.ok:bC->Bool
 | .any=>false
 | .bM (.agg _)=>false
 | .bM (.tuple _)=>false
 |_=>true
def ER:List bC->Bool
 | []=>true
 |s::l=>s.ok&&ER l
def vT:aO->Option (List bC)
 | .c (.one s)=>match s.ok with
  |true=>some [s]
  |false=>none
 | .c (.agg l)=>match ER l with
  |true=>some l
  |false=>none
 |_=>none
def BM (l:List bC) (o:Nat) (cs:List bC):List bC:=l.take o++cs++l.drop (o+cs.length)
def vU (K:aX) (mP:Nat->Option (Nat×Nat)):List (Nat×Operand)->List bC->Option (List bC)
 | [],l=>some l
 |(i,x)::bE,l=>match mP i,vT (a7 K x) with
  |some (o,n),some cs=>match Nat.beq cs.length n,Nat.ble (o+n) l.length with
   |true,true=>vU K mP bE (BM l o cs)
   |_,_=>none
  |_,_=>none
def rp:(u v:bA)->Option (PLift (u=v))
 | .int .i64,.int .i64=>some ⟨rfl⟩
 | .int .u8,.int .u8=>some ⟨rfl⟩
 | .int .u16,.int .u16=>some ⟨rfl⟩
 | .int .u32,.int .u32=>some ⟨rfl⟩
 | .int .u64,.int .u64=>some ⟨rfl⟩
 | .int .i32,.int .i32=>some ⟨rfl⟩
 | .u8,.u8=>some ⟨rfl⟩
 | .bool,.bool=>some ⟨rfl⟩
 | .str,.str=>some ⟨rfl⟩
 | .aL,.aL=>some ⟨rfl⟩
 | .dL,.dL=>some ⟨rfl⟩
 | .fn,.fn=>some ⟨rfl⟩
 | .b4 u,.b4 v=>match rp u v with
  |some ⟨h⟩=>some ⟨congrArg bA.b4 h⟩
  |none=>none
 | .bK u tv,.bK v da=>match rp u v,rp tv da with
  |some ⟨h⟩,some ⟨h'⟩=>some ⟨h▸h'▸rfl⟩
  |_,_=>none
 | .arr n u,.arr m v=>match rp u v with
  |some ⟨h⟩=>if hn:n=m then some ⟨hn▸h▸rfl⟩ else none
  |none=>none
 |_,_=>none
def mj:IntKind->IntKind->Bool
 | .i64,.i64=>true
 | .u8,.u8=>true
 | .u16,.u16=>true
 | .u32,.u32=>true
 | .u64,.u64=>true
 | .i32,.i32=>true
 | .i16,.i16=>true
 | .i8,.i8=>true
 |_,_=>false
def nV {u v:bA} (h:u=v) (xs:List (aa u)):List (aa v):=match v,h with
 |_,rfl=>xs
def I9 {u v:bA} (h:u=v) (x:aa u):aa v:=match v,h with
 |_,rfl=>x
def Ja (x y:D):Prop:=match x,y with
 | .int k a,.int d2 b=>match mj k d2 with
  |true=>a=b
  |false=>False
 | .str a,.str b=>a=b
 | .aL a,.aL b=>a=b
 | .dL a,.dL b=>a=b
 | .fn a,.fn b=>a=b
 | .bool a,.bool b=>a=b
 | .lit a,.lit b=>a=b
 | .lit a,.bool b=>a=b
 | .cf u xs,.cf v ys=>match rp u v with
  |some ⟨h⟩=>nV h xs=ys
  |none=>False
 |_,_=>False
def ES (s t:bC):Prop:=match t,s with
 | .any,_=>True
 | .d y,.d x=>Ja x y
 | .d (.cf u ys),.dH=>ys=[]
 |t,s=>s=t
def ET:List bC->List bC->Prop
 | [],[]=>True
 |s::l,t::m=>ES s t/\ET l m
 |_,_=>False
def EU (s t:dQ):Prop:=match s,t with
 | .one s,.one t=>ES s t
 | .agg l,.agg m=>ET l m
 | .agg _,.one .any=>True
 | .kc u x,.kc v y=>match rp u v with
  |some ⟨h⟩=>I9 h x=y
  |none=>False
 | .kc _ _,.one .any=>True
 |_,_=>False
def Jb:List dQ->List dQ->Prop
 | [],[]=>True
 |s::l,t::m=>EU s t/\Jb l m
 |_,_=>False
def tw (s t:aO):Prop:=match s,t with
 | .c s,.c t=>EU s t
 | .cb l,.cb m=>Jb l m
 | .undef,.undef=>True
 |_,.c (.one .any)=>True
 |_,_=>False
def EV:List aO->List aO->Prop
 | [],[]=>True
 |s::l,t::m=>tw s t/\EV l m
 |_,_=>False
def Jc:Option Prop->Option Prop->Option Prop
 |none,q=>q
 |some p,none=>some p
 |some p,some q=>some (p/\q)
def ut:Option Prop->Prop
 |none=>True
 |some p=>p
def Jd (k:IntKind):List bC->Option (Int×List bC×Option Prop)
 | .d (.int d2 n)::l=>match mj d2 k with
  |true=>some (n,l,none)
  |false=>none
 |_=>none
def Je:List bC->Option (UInt8×List bC×Option Prop)
 | .d (.int d2 n)::l=>match mj d2 .u8 with
  |true=>some (UInt8.ofNat n.toNat,l,some (0<=n/\n < 256))
  |false=>none
 |_=>none
def Jf:List bC->Option (Bool×List bC×Option Prop)
 | .d (.lit b)::l=>some (b,l,none)
 | .d (.bool b)::l=>some (b,l,none)
 |_=>none
def Jg:List bC->Option (aA0×List bC×Option Prop)
 | .d (.str s)::l=>some (s,l,none)
 |_=>none
def Jh:List bC->Option (Option Nat×List bC×Option Prop)
 | .d (.aL x)::l=>some (x,l,none)
 | .bM (.pointer none)::l=>some (none,l,none)
 |_=>none
def Ji:List bC->Option (Option (Nat×Nat×Nat)×List bC×Option Prop)
 | .d (.dL x)::l=>some (x,l,none)
 | .dH::l=>some (none,l,none)
 |_=>none
def BN:List kQ->Option aA1
 | []=>some []
 | .d (.aL (some b))::l=>match BN l with
  |some r=>some (b::r)
  |none=>none
 |_=>none
def Jj:List bC->Option ((Nat×aA1)×List bC×Option Prop)
 | .d (.fn x)::l=>some (x,l,none)
 | .cY f m::l=>match BN m with
  |some bs=>some ((f,bs),l,none)
  |none=>none
 |_=>none
def Jk (u:bA):List bC->Option (List (aa u)×List bC×Option Prop)
 | .dH::l=>some ([],l,none)
 | .d (.cf v xs)::l=>match rp v u with
  |some ⟨h⟩=>some (nV h xs,l,none)
  |none=>none
 |_=>none
def nW:(u:bA)->List bC->Option (aa u×List bC×Option Prop)
 | .int k,l=>Jd k l
 | .u8,l=>Je l
 | .bool,l=>Jf l
 | .str,l=>Jg l
 | .aL,l=>Jh l
 | .dL,l=>Ji l
 | .fn,l=>Jj l
 | .b4 u,l=>Jk u l
 | .bK u v,l=>match nW u l with
  |some (x,l,p)=>match nW v l with
   |some (y,l,q)=>some ((x,y),l,Jc p q)
   |none=>none
  |none=>none
 | .arr _ _,_=>none
def xr (u:bA):Nat->List bC->Option (List (aa u)×Option Prop)
 |0,[]=>some ([],none)
 |0,_=>none
 |n+1,l=>match nW u l with
  |some (x,l,p)=>match xr u n l with
   |some (xs,q)=>some (x::xs,Jc p q)
   |none=>none
  |none=>none
def EW (n:Nat) (l:List bC):List bC:=match n with
 |0=>[]
 |n+1=>l++EW n l
def gr (u:bA) (x:aa u) (o:Nat):Nat->List bC
 |0=>[]
 |n+1=>.d (fM u x o)::gr u x (o+1) n
def uu (k:IntKind) (n:Int):Prop:=match k with
 | .i64=> -9223372036854775808<=n/\n<=9223372036854775807
 | .u8=>0<=n/\n < 256
 | .u16=>0<=n/\n < 65536
 | .u32=>0<=n/\n < 4294967296
 | .u64=>0<=n/\n < 18446744073709551616
 | .i32=> -2147483648<=n/\n<=2147483647
 | .i16=> -32768<=n/\n<=32767
 | .i8=> -128<=n/\n<=127
def jz (P:Program) (f:FuncId):Bool:=match P.funcs[f]? with
 |some fn=> !(fn.name == "runtime.NumGoroutine" ||fn.body.isNone)
 |none=>false
def Fn (P:Program) (f:FuncId) (args:List aO) (aI:ay) (bb:aA1) (res:aO) (aN:ay):Prop:=
 jz P f=true/\ ∀(ρ:Nat->bo) (F:Nat->Nat->Prop) (I:Nat->Prop) (w:World) (bW:List Value),
  (∀b,I b->b < w.heap.size)->(∀c ch,aj aI c=some ch->Holds ρ I (F c) w (ρ c) ch)->(∀c ch,aj aI c=some ch-> ∀b,F c b->b < w.heap.size/\ ¬I b)->
  (∀c b7 ch ch' b,aj aI c=some ch->aj aI b7=some ch'->c≠b7->F c b-> ¬F b7 b)->
  bW.length=args.length->(∀(i:Nat) (v:aO) (x:Value),args[i]? =some v->bW[i]? =some x->cx ρ I w v x)->
  Calls P f bW.toArray w fun e w'=> ∃(x:Value) (ρ':Nat->bo) (F':Nat->Nat->Prop),e= .returned x/\cP (fun b=> ∃c ch,aj aI c=some ch/\F c b) w w'/\(∀c,c∉bb->ρ' c=ρ c)/\
   ∃I':Nat->Prop,cj I w I' w'/\(∀b,I' b->b < w'.heap.size/\(I b\/(∃c ch,aj aI c=some ch/\F c b)\/w.heap.size<=b))/\
   (∀c ch,aj aN c=some ch->Holds ρ' I' (F' c) w' (ρ' c) ch)/\
   (∀c ch,aj aN c=some ch-> ∀b,F' c b->b < w'.heap.size/\ ¬I' b/\((∃hy cB,aj aI hy=some cB/\F hy b)\/w.heap.size<=b))/\
   (∀c b7 ch ch' b,aj aN c=some ch->aj aN b7=some ch'->c≠b7->F' c b-> ¬F' b7 b)/\cx ρ' I' w' res x
def kT (B:ay):ay->Prop
 | []=>True
 |(c,ch)::l=>aj B c=some ch/\kT B l
def cm:ay->aA1
 | []=>[]
 |(c,_)::l=>c::cm l
def Jl:ay->List (Nat×Option ba)
 | []=>[]
 |(c,ch)::l=>(c,some ch)::Jl l
def iL:ay->ay->List (Nat×Option ba)
 | [],m=>Jl m
 |(c,_)::l,m=>(c,none)::iL l m
def mQ (aI:ay) (bb:aA1):ay->Bool
 | []=>true
 |(c,_)::l=>((cm aI).contains c||bb.contains c)&& !(cm l).contains c&&mQ aI bb l
def sr (ids:aA1) (K:aX) (B:ay):aA1->Bool
 | []=>true
 |c::l=>g9 ids K B c&& !l.contains c&&sr ids K B l
def xt (P:Program) (f:FuncId) (args:List aO) (ids:aA1) (K:aX) (B:ay) (k:aO->fY->Prop):Prop:=
 ∃aI bb res aN,Fn P f args aI bb res aN/\kT B aI/\(sr ids K B bb&&mQ aI bb aN)=true/\oV res fun r=>k r ⟨cm aI,bb,iL aI aN⟩
def nX (k:IntKind) (n:Int) (q:Prop):Prop:=match k with
 | .i64=>(-9223372036854775808<=n/\n<=9223372036854775807)/\q
 | .u8=>(0<=n/\n < 256)/\q
 | .u16=>(0<=n/\n < 65536)/\q
 | .u32=>(0<=n/\n < 4294967296)/\q
 | .u64=>(0<=n/\n < 18446744073709551616)/\q
 | .i32=>(-2147483648<=n/\n<=2147483647)/\q
 | .i16=>(-32768<=n/\n<=32767)/\q
 | .i8=>(-128<=n/\n<=127)/\q
theorem xu {k:IntKind} {n:Int} {q:Prop} (h:nX k n q):uu k n/\q:=by cases k <;>exact h
def xv:List aO->Option (List kQ)
 | []=>some []
 | .c (.one (.ptr c o))::l=>match xv l with
  |some r=>some (.p c o::r)
  |none=>none
 | .c (.one (.d x))::l=>match xv l with
  |some r=>some (.d x::r)
  |none=>none
 |_=>none
def uv:aA1->List aO
 | []=>[]
 |b::l=>.c (.one (.d (.aL (some b))))::uv l
def oW:List kQ->List aO
 | []=>[]
 | .p c o::l=>.c (.one (.ptr c o))::oW l
 | .d x::l=>.c (.one (.d x))::oW l
def EX (op:BinOp) (x y:aO) (k:aO->fY->Prop):Prop:=match x,y with
 | .c (.one (.d (.int i a))),.c (.one (.d (.int j b)))=>match mj i j,op with
  |true,.add=>nX i (a+b) (k (.c (.one (.d (.int i (a+b))))) bJ)
  |true,.sub=>nX i (a - b) (k (.c (.one (.d (.int i (a - b))))) bJ)
  |true,.mul=>nX i (a*b) (k (.c (.one (.d (.int i (a*b))))) bJ)
  |true,.quo=>(0<=a/\0 < b)/\nX i (a/b) (k (.c (.one (.d (.int i (a/b))))) bJ)
  |true,.rem=>(0<=a/\0 < b)/\nX i (a % b) (k (.c (.one (.d (.int i (a % b))))) bJ)
  |_,.shl=>match mj i .i64 with
   |true=>(0<=a/\0<=b/\b<=64)/\nX i (a*(2 ^b.toNat:Nat)) (k (.c (.one (.d (.int i (a*(2 ^b.toNat:Nat)))))) bJ)
   |false=>False
  |_,.shr=>match mj i .i64 with
   |true=>(0<=a/\0<=b/\b<=64)/\k (.c (.one (.d (.int i (a/(2 ^b.toNat:Nat)))))) bJ
   |false=>False
  |true,.or=>match mj i .i64 with
   |true=>(0<=a/\a<=9223372036854775807/\0<=b/\b<=9223372036854775807)/\k (.c (.one (.d (.int i ((a.toNat ||| b.toNat:Nat):Int))))) bJ
   |false=>False
  |true,.eql=>k (.c (.one (.d (.bool (decide (a=b)))))) bJ
  |true,.neq=>k (.c (.one (.d (.bool (!decide (a=b)))))) bJ
  |true,.lss=>k (.c (.one (.d (.bool (decide (a < b)))))) bJ
  |true,.leq=>k (.c (.one (.d (.bool (decide (a<=b)))))) bJ
  |true,.gtr=>k (.c (.one (.d (.bool (decide (b < a)))))) bJ
  |true,.geq=>k (.c (.one (.d (.bool (decide (b<=a)))))) bJ
  |_,_=>False
 | .c (.one (.d (.str a))),.c (.one (.d (.str b)))=>match op with
  | .add=>a.length+b.length<=4294967296/\k (.c (.one (.d (.str (a++b))))) bJ
  | .eql=>k (.c (.one (.d (.bool (decide (a=b)))))) bJ
  | .neq=>k (.c (.one (.d (.bool (!decide (a=b)))))) bJ
  | .lss=>k (.c (.one (.d (.bool (Op.bytesLess a b))))) bJ
  | .leq=>k (.c (.one (.d (.bool (Op.bytesLess a b||decide (a=b)))))) bJ
  | .gtr=>k (.c (.one (.d (.bool (!(Op.bytesLess a b||decide (a=b))))))) bJ
  | .geq=>k (.c (.one (.d (.bool (!Op.bytesLess a b))))) bJ
  |_=>False
 | .c (.one (.ptr _ _)),.c (.one (.bM (.pointer none)))=>match op with
  | .eql=>k (.c (.one (.d (.lit false)))) bJ
  | .neq=>k (.c (.one (.d (.lit true)))) bJ
  |_=>False
 | .c (.one (.bM (.pointer none))),.c (.one (.bM (.pointer none)))=>match op with
  | .eql=>k (.c (.one (.d (.lit true)))) bJ
  | .neq=>k (.c (.one (.d (.lit false)))) bJ
  |_=>False
 |_,_=>False
def Jm (aU:dl) (T:Nat):Bool:=match aU.find T with
 |some ti=>match ti.kd with
  | .ptr _=>true
  |_=>false
 |none=>false
def zC (aU:dl) (T:Nat):Bool:=match aU.find T with
 |some ti=>match ti.kd with
  | .ptr e=>match aU.find e with
   |some _=>true
   |none=>false
  |_=>false
 |none=>false
def EY (aU:dl) (T:Nat) (x:Option Nat) (y:aO) (k:Bool->Prop):Prop:=match y with
 | .c (.one (.bM (.pointer none)))=>(∀b,x=some b->k false)/\(x=none->k true)
 | .c (.one (.d (.aL y)))=>match zC aU T with
  |true=>x=y/\k true
  |false=>False
 |_=>False
def EZ (aU:dl) (T:Nat) (op:BinOp) (x y:aO) (k:aO->fY->Prop):Prop:=match x with
 | .c (.one (.d (.aL x)))=>match op with
  | .eql=>EY aU T x y fun b=>k (.c (.one (.d (.lit b)))) bJ
  | .neq=>EY aU T x y fun b=>k (.c (.one (.d (.lit !b)))) bJ
  |_=>False
 |x=>EX op x y k
def E0 (aU:dl) (T:Nat):Bool:=match aU.find T with
 |some ti=>match ti.kd with
  | .bool=>true
  |_=>false
 |none=>false
def E1 (op:BinOp) (a:Bool) (y:aO) (k:aO->fY->Prop):Prop:=match op,y with
 | .eql,.c (.one (.d (.bool b)))=>k (.c (.one (.d (.bool (a == b))))) bJ
 | .eql,.c (.one (.d (.lit b)))=>k (.c (.one (.d (.bool (a == b))))) bJ
 | .neq,.c (.one (.d (.bool b)))=>k (.c (.one (.d (.bool (!(a == b)))))) bJ
 | .neq,.c (.one (.d (.lit b)))=>k (.c (.one (.d (.bool (!(a == b)))))) bJ
 |_,_=>False
def Jn (aU:dl) (T f:Nat):Option (Nat×Nat):=match aU.find T with
 |some ti=>match ti.kd with
  | .st=>ti.mP[f]?
  |_=>none
 |none=>none
def elemOf (aU:dl) (T:Nat):Option (Nat×b8):=match aU.find T with
 |some ti=>match ti.kd with
  | .b4 e=>match aU.find e with
   |some te=>some (e,te)
   |none=>none
  |_=>none
 |none=>none
def xw (aU:dl) (T:Nat):Bool:=match aU.find T with
 |some ti=>match ti.kd with
  | .str=>true
  |_=>false
 |none=>false
def xx (aU:dl) (T:Nat):Option (Nat×Nat):=match aU.find T with
 |some ti=>match ti.kd with
  | .mp k e=>some (k,e)
  |_=>none
 |none=>none
def Jo (aU:dl) (T:Nat) (B:ay) (x:aO):Option (Nat×aA1):=match x with
 | .c (.one (.d (.str s)))=>match xw aU T with
  |true=>some (s.length,[])
  |false=>none
 | .c (.one (.d (.cf _ xs)))=>match elemOf aU T with
  |some _=>some (xs.length,[])
  |none=>none
 | .c (.one .dH)=>match elemOf aU T with
  |some _=>some (0,[])
  |none=>none
 | .c (.one (.own c))=>match elemOf aU T with
  |some _=>match aj B c with
   |some (.row _ _ xs)=>some (xs.length,[c])
   |_=>none
  |none=>none
 | .c (.one (.mp c))=>match xx aU T with
  |some _=>match aj B c with
   |some (.map _ _ es)=>some (es.length,[c])
   |_=>none
  |none=>none
 |_=>none
def rq (aU:dl) (e:Nat):Bool:=match aU.find e with
 |some te=>match te.kd,te.zero,te.size,te.bytes with
  | .int .u8,[.d (.int .u8 0)],1,1=>true
  |_,_,_,_=>false
 |none=>false
def Jp (aU:dl) (S T:Nat) (x:aO) (B:ay) (k:aO->fY->Prop):Prop:=match aU.find S,aU.find T with
 |some Pv,some ti=>match Pv.kd,ti.kd,x with
  | .int i,.int j,.c (.one (.d (.int _ n)))=>match mj j .u8,mj i .u8 with
   |true,false=>k (.c (.one (.d (.int j (n % 256))))) bJ
   |_,_=>nX j n (k (.c (.one (.d (.int j n)))) bJ)
  | .str,.b4 e,.c (.one (.d (.str s)))=>match rq aU e with
   |true=>s.length<=4294967296/\k (.c (.one (.d (.cf .u8 s)))) bJ
   |false=>False
  | .b4 e,.str,.c (.one (.d (.cf .u8 s)))=>match rq aU e with
   |true=>k (.c (.one (.d (.str s)))) bJ
   |false=>False
  | .b4 e,.str,.c (.one .dH)=>match rq aU e with
   |true=>k (.c (.one (.d (.str [])))) bJ
   |false=>False
  | .b4 e,.str,.c (.one (.own c))=>match aj B c,rq aU e with
   |some (.row _ .u8 s),true=>k (.c (.one (.d (.str s)))) ⟨[c],[],[]⟩
   |_,_=>False
  |_,_,_=>False
 |_,_=>False
def zD (n:Nat) (hz aG:Option aO):Option (Nat×Nat×Prop):=match hz,aG with
 |none,some (.c (.one (.d (.int .i64 j))))=>some (0,j.toNat,0<=j/\j<=n)
 |some (.c (.one (.d (.int .i64 i)))),none=>some (i.toNat,n,0<=i/\i<=n)
 |some (.c (.one (.d (.int .i64 i)))),some (.c (.one (.d (.int .i64 j))))=>some (i.toNat,j.toNat,0<=i/\i<=j/\j<=n)
 |none,none=>some (0,n,True)
 |_,_=>none
def Jq (aU:dl) (T:Nat) (x:aO) (hz aG:Option aO) (k:aO->fY->Prop):Prop:=match x with
 | .c (.one (.d (.str s)))=>match xw aU T,zD s.length hz aG with
  |true,some (l,h,p)=>p/\k (.c (.one (.d (.str ((s.take h).drop l))))) bJ
  |_,_=>False
 | .c (.one (.d (.cf u xs)))=>match elemOf aU T,zD xs.length hz aG with
  |some (_,te),some (l,h,p)=>match Nat.beq te.size (aS u) with
   |true=>p/\k (.c (.one (.d (.cf u ((xs.take h).drop l))))) bJ
   |false=>False
  |_,_=>False
 |_=>False
def Jr (aU:dl) (T:Nat) (x y:aO) (dst:Option Nat) (ids:aA1) (K:aX) (B:ay) (k:aO->fY->Prop):Prop:=match elemOf aU T,dst with
 |some (e,te),some d=>match te.u,y with
  |some u,.c (.one (.d (.cf v ys)))=>match rp v u with
   |some ⟨h⟩=>match x with
    | .c (.one .dH)=>ys.length<=4294967296/\g9 ids K B d=true/\k (.c (.one (.own d))) ⟨[],[d],[(d,some (.row e u (nV h ys)))]⟩
    | .c (.one (.own c))=>match aj B c with
     |some (.row b6 tv xs)=>match Nat.beq b6 e,rp tv u with
      |true,some ⟨h'⟩=>xs.length+ys.length<=4294967296/\g9 ids K B d=true/\k (.c (.one (.own d))) ⟨[c],[d],[(c,none),(d,some (.row e u (nV h' xs++nV h ys)))]⟩
      |_,_=>False
     |_=>False
    |_=>False
   |none=>False
  |some u,.c (.one (.own cG))=>match x with
   | .c (.one (.own c))=>match aj B c,aj B cG with
    |some (.row b6 tv xs),some (.row ao v ys)=>match Nat.beq c cG,Nat.beq b6 e,rp v u,rp tv u with
     |false,true,some ⟨h⟩,some ⟨h'⟩=>xs.length+ys.length<=4294967296/\g9 ids K B d=true/\k (.c (.one (.own d))) ⟨[c,cG],[d],[(c,none),(d,some (.row e u (nV h' xs++nV h ys)))]⟩
     |_,_,_,_=>False
    |_,_=>False
   |_=>False
  |_,_=>False
 |_,_=>False
def Js (aU:dl) (T e3:Nat) (x y:aO) (dst:Option Nat) (ids:aA1) (K:aX) (B:ay) (k:aO->fY->Prop):Prop:=match elemOf aU T,xw aU e3,dst with
 |some (e,te),true,some d=>match x,y with
  | .c (.one (.own c)),.c (.one (.d (.str s)))=>match rq aU e,aj B c with
   |true,some (.row b6 .u8 xs)=>match Nat.beq b6 e with
    |true=>List.length (α:=UInt8) xs+s.length<=4294967296/\g9 ids K B d=true/\k (.c (.one (.own d))) ⟨[c],[d],[(c,none),(d,some (.row e .u8 (List.append (α:=UInt8) xs s)))]⟩
    |false=>False
   |_,_=>False
  |_,_=>False
 |_,_,_=>False
def xy:(aH:bA)->aO->Option (aa aH)
 | .int k,.c (.one (.d (.int d2 n)))=>match mj d2 k with
  |true=>some n
  |false=>none
 | .str,.c (.one (.d (.str s)))=>some s
 |_,_=>none
def zE:(u:bA)->aa u->dQ
 | .bK u v,x=>.agg (gr (.bK u v) x 0 (aS (.bK u v)))
 | .arr n u,x=>.agg (gr (.arr n u) x 0 (aS (.arr n u)))
 | .int k,x=>.one (.d (fM (.int k) x 0))
 | .u8,x=>.one (.d (fM .u8 x 0))
 | .bool,x=>.one (.d (fM .bool x 0))
 | .str,x=>.one (.d (fM .str x 0))
 | .aL,x=>.one (.d (fM .aL x 0))
 | .dL,x=>.one (.d (fM .dL x 0))
 | .fn,x=>.one (.d (fM .fn x 0))
 | .b4 u,x=>.one (.d (fM (.b4 u) x 0))
def E2:bC->D->Bool
 | .d (.int k n),.int d2 m=>mj k d2&&decide (n=m)
 | .d (.str []),.str []=>true
 | .bM (.pointer none),.aL none=>true
 | .dH,.dL none=>true
 | .d (.lit b),.bool c=>b == c
 | .dH,.cf _ []=>true
 |_,_=>false
def iM:List bC->List bC->Bool
 | [],[]=>true
 |s::l,.d x::m=>E2 s x&&iM l m
 |_,_=>false
def xz (aU:dl) (kt:Nat) (aH:bA):Bool:=match aU.find kt with
 |some ti=>match ti.kd,aH with
  | .int k,.int d2=>mj k d2
  | .str,.str=>true
  |_,_=>false
 |none=>false
def E3 (aU:dl) (et:Nat) (aJ:bA):Bool:=match aU.find et with
 |some ti=>iM ti.zero (gr aJ (cL aJ) 0 (aS aJ))&&(ti.row == !nk aJ)&&(nk aJ||Nat.ble 2 (aS aJ))
 |none=>false
def Jt (aU:dl) (T:Nat) (x i:aO) (ok:Bool) (B:ay) (k:aO->fY->Prop):Prop:=match x with
 | .c (.one (.mp c))=>match aj B c with
  |some (.map aH aJ es)=>match xx aU T,xy aH i with
   |some (kt,et),some key=>match xz aU kt aH&&E3 aU et aJ,ok with
    |true,true=>xp (zE aJ ((bY es key).getD (cL aJ))) fun x=>k (.cb [x,.one (.d (.bool (bY es key).isSome))]) ⟨[c],[],[]⟩
    |true,false=>xp (zE aJ ((bY es key).getD (cL aJ))) fun x=>k (.c x) ⟨[c],[],[]⟩
    |false,_=>False
   |_,_=>False
  |_=>False
 |_=>False
def Ju (u:bA) (x:aO):Option (aa u×Option Prop):=match x with
 | .c (.kc v y)=>match rp v u,nk u with
  |some ⟨h⟩,false=>some (I9 h y,none)
  |_,_=>none
 | .c (.one s)=>match nk u,nW u [s] with
  |true,some (y,[],p)=>some (y,p)
  |_,_=>none
 | .c (.agg l)=>match nk u,nW u l with
  |false,some (y,[],p)=>some (y,p)
  |_,_=>none
 |_=>none
def Jv (aU:dl) (T:Nat) (x i v:aO) (B:ay) (k:aO->fY->Prop):Prop:=match x with
 | .c (.one (.mp c))=>match aj B c with
  |some (.map aH aJ es)=>match xx aU T,xy aH i with
   |some (kt,et),some key=>match xz aU kt aH,Ju aJ v with
    |true,some (y,p)=>ut p/\k .undef ⟨[c],[],[(c,some (.map aH aJ (dw es key y)))]⟩
    |true,none=>match v,nk aJ with
     | .c (.agg l),false=> ∃y:aa aJ,(oS aJ y/\l=gr aJ y 0 (aS aJ))/\k .undef ⟨[c],[],[(c,some (.map aH aJ (dw es key y)))]⟩
     |_,_=>False
    |false,_=>False
   |_,_=>False
  |_=>False
 |_=>False
def Jw (aU:dl) (T:Nat) (x i:aO) (B:ay) (k:aO->fY->Prop):Prop:=match x with
 | .c (.one (.mp c))=>match aj B c with
  |some (.map aH aJ es)=>match xx aU T,xy aH i with
   |some (kt,et),some key=>match xz aU kt aH with
    |true=>k (.cb []) ⟨[c],[],[(c,some (.map aH aJ (gR es key)))]⟩
    |false=>False
   |_,_=>False
  |_=>False
 |_=>False
def Jx (aU:dl) (T:Nat) (dst:Option Nat) (ids:aA1) (K:aX) (B:ay) (k:aO->fY->Prop):Prop:=match xx aU T,dst with
 |some (kt,et),some d=>match aU.find kt,aU.find et with
  |some Pw,some vV=>match Pw.u,vV.u with
   |some aH,some aJ=>g9 ids K B d=true/\k (.c (.one (.mp d))) ⟨[],[d],[(d,some (.map aH aJ []))]⟩
   |_,_=>False
  |_,_=>False
 |_,_=>False
def Jy (aU:dl) (T c:Nat) (B:ay) (k:aO->fY->Prop):Prop:=match aU.find T with
 |some ti=>match ti.kd,ti.u with
  | .arr n e,some (.arr m v)=>match Nat.beq n m&&Nat.ble n 1000000&&Nat.blt 0 n,aU.find e,aj B c with
   |true,some _,some (.cells l)=> ∃ys:List (aa v),(oS (.arr n v) ys/\l=gr (.arr n v) ys 0 (aS (.arr n v)))/\k (.c (.one (.d (.cf v ys)))) ⟨[c],[],[(c,none)]⟩
   |_,_,_=>False
  |_,_=>False
 |none=>False
def Jz (aU:dl) (T:Nat) (x:aO) (k:aO->fY->Prop):Prop:=match aU.find T,x with
 |some ti,.c (.one (.d (.cf v xs)))=>match ti.kd with
  | .arr n _=>(0 < n/\n<=List.length xs)/\k (.c (.one (.el (.arr n v) (List.take n xs) 0))) bJ
  |_=>False
 |_,_=>False
def bB (P:Program) (N:Nat) (ids:aA1) (o:Oper) (K:aX) (B:ay) (v:aO) (e:fY):Prop:=
 ∀(K':aX) (B':ay),(∀x,x∈o.op.operands->a7 K' x=a7 K x)->(∀c,c∈e.ix->aj B' c=aj B c)->(∀c,c∈e.bb->g9 ids K' B' c=true)->
  ∀(C:fi) (a:Act) (w:World),fa N ids C K' B' a w->(∀d,o.dst=some d->d < N)-> ∀(fO:Act->World->Prop) (Q:Exit->Act->World->Prop),
   (∀a' w',fa N ids C (mO o.dst v K') (hl e.hL B') a' w'->fO a' w')->o.wp P a w fO Q
def laid (xs:aA0) (off n:Nat) (ys:aA0):aA0:=xs.take off++ys.take n++xs.drop (off+(ys.take n).length)
def E4 (c off n:Nat) (ys:aA0) (B:ay) (k:aO->fY->Prop):Prop:=match aj B c with
 |some (.row e .u8 xs)=>off+n<=xs.length/\k (.c (.one .any)) ⟨[c],[],[(c,some (.row e .u8 (laid xs off n ys)))]⟩
 |_=>False
def JA (aU:dl) (T:Nat) (x y:aO) (B:ay) (k:aO->fY->Prop):Prop:=match elemOf aU T with
 |some (e,_)=>match rq aU e,y with
  |true,.c (.one (.d (.cf .u8 ys)))=>match x with
   | .c (.one (.own c))=>match aj B c with
    |some (.row _ .u8 xs)=>E4 c 0 (List.length xs) ys B k
    |_=>False
   | .c (.one (.os c s off n))=>match Nat.beq s 1 with
    |true=>E4 c off n ys B k
    |false=>False
   |_=>False
  |_,_=>False
 |none=>False
def E5 (P:Program) (ids:aA1) (o:Oper) (K:aX) (B:ay) (k:aO->fY->Prop):Prop:=
 ∃v e,(∀N,bB P N ids o K B v e)/\sr ids K B e.bb=true/\oV v fun v=>k v e
def JB (P:Program) (aU:dl) (ids:aA1) (o:Oper) (K:aX) (B:ay) (k:aO->fY->Prop):Prop:=match o.op with
 | .move x=>oV (a7 K x) fun v=>k v bJ
 | .assign x=>oV (a7 K x) fun v=>k v bJ
 | .pick c x y=>match a7 K c with
  | .c (.one (.d (.lit true)))=>oV (a7 K x) fun v=>k v bJ
  | .c (.one (.d (.lit false)))=>oV (a7 K y) fun v=>k v bJ
  |_=>False
 | .binOp op T x y _=>match op,Jm aU T with
  | .eql,true=>EZ aU T .eql (a7 K x) (a7 K y) k
  | .neq,true=>EZ aU T .neq (a7 K x) (a7 K y) k
  |op,false=>match a7 K x with
   | .c (.one (.ptr _ _))=>False
   | .c (.one (.bM _))=>False
   | .c (.one (.d (.bool a)))=>match E0 aU T with
    |true=>E1 op a (a7 K y) k
    |false=>False
   | .c (.one (.d (.lit a)))=>match E0 aU T with
    |true=>E1 op a (a7 K y) k
    |false=>False
   |_=>EX op (a7 K x) (a7 K y) k
  |_,_=>False
 | .unOp .not _ x=>match a7 K x with
  | .c (.one (.d (.lit true)))=>k (.c (.one (.d (.lit false)))) bJ
  | .c (.one (.d (.lit false)))=>k (.c (.one (.d (.lit true)))) bJ
  | .c (.one (.d (.bool b)))=>k (.c (.one (.d (.bool (!b))))) bJ
  |_=>False
 | .extract x i=>match a7 K x with
  | .cb l=>match l[i]? with
   |some v=>k (.c v) bJ
   |none=>False
  |_=>False
 | .nilCheck x=>match a7 K x with
  | .c (.one (.ptr c o))=>k (.c (.one (.ptr c o))) bJ
  | .c (.one (.el u y o))=>k (.c (.one (.el u y o))) bJ
  | .c (.one (.gj c s i o))=>k (.c (.one (.gj c s i o))) bJ
  |_=>False
 | .fieldAddr T x f=>match Jn aU T f with
  |some (d,_)=>match a7 K x with
   | .c (.one (.ptr c o))=>k (.c (.one (.ptr c (o+d)))) bJ
   | .c (.one (.el u y o))=>k (.c (.one (.el u y (o+d)))) bJ
   | .c (.one (.gj c s i o))=>k (.c (.one (.gj c s i (o+d)))) bJ
   |_=>False
  |none=>False
 | .load T x=>match aU.find T with
  |some ti=>match a7 K x with
   | .c (.one (.ptr c o))=>match aj B c with
    |some (.cells l)=>match ti.row with
     |true=>match Nat.ble (o+ti.size) l.length with
      |true=>pJ ((l.drop o).take ti.size) fun l=>k (.c (.agg l)) ⟨[c],[],[]⟩
      |false=>False
     |false=>match l[o]? with
      |some s=>zz s fun s=>k (.c (.one s)) ⟨[c],[],[]⟩
      |none=>False
    |_=>False
   | .c (.one (.el u y o))=>match ti.row with
    |true=>match Nat.ble (o+ti.size) (aS u) with
     |true=>pJ (gr u y o ti.size) fun l=>k (.c (.agg l)) bJ
     |false=>False
    |false=>match Nat.blt o (aS u) with
     |true=>zy (fM u y o) fun x=>k (.c (.one (.d x))) bJ
     |false=>False
   | .c (.one (.gj c s i o))=>match aj B c with
    |some (.row _ u xs)=>match Nat.beq s (aS u) with
     |true=> ∃y,fz xs i=some y/\match ti.row with
      |true=>match Nat.ble (o+ti.size) (aS u) with
       |true=>pJ (gr u y o ti.size) fun l=>k (.c (.agg l)) ⟨[c],[],[]⟩
       |false=>False
      |false=>match Nat.blt o (aS u) with
       |true=>zy (fM u y o) fun x=>k (.c (.one (.d x))) ⟨[c],[],[]⟩
       |false=>False
     |false=>False
    |_=>False
   |_=>False
  |none=>False
 | .store T x v=>match aU.find T with
  |some ti=>match a7 K x with
   | .c (.one (.ptr c o))=>match aj B c with
    |some (.cells l)=>match vT (a7 K v) with
     |some cs=>match Nat.beq cs.length ti.size,Nat.ble (o+cs.length) l.length with
      |true,true=>pJ (BM l o cs) fun l=>k .undef ⟨[c],[],[(c,some (.cells l))]⟩
      |_,_=>False
     |none=>False
    |_=>False
   | .c (.one (.gj c s i o))=>match aj B c with
    |some (.row e u xs)=>match Nat.beq (aS u) 1,Nat.beq s 1,Nat.beq o 0,Nat.beq ti.size 1,a7 K v with
     |true,true,true,true,.c (.one pK)=>match nW u [pK] with
      |some (y,[],p)=>(ut p/\i < xs.length)/\k .undef ⟨[c],[],[(c,some (.row e u (xs.set i y)))]⟩
      |_=>False
     |_,_,_,_,_=>False
    |_=>False
   |_=>False
  |none=>False
 | .alloc T=>match aU.find T,o.dst with
  |some ti,some d=>g9 ids K B d=true/\k (.c (.one (.ptr d 0))) ⟨[],[d],[(d,some (.cells ti.zero))]⟩
  |_,_=>False
 | .box T x=>match aU.find T,o.dst,vT (a7 K x) with
  |some ti,some d,some l=>match Nat.beq l.length ti.size with
   |true=>g9 ids K B d=true/\k (.c (.one (.ptr d 0))) ⟨[],[d],[(d,some (.cells l))]⟩
   |false=>False
  |_,_,_=>False
 | .build T bE=>match aU.find T with
  |some ti=>match ti.kd,vU K (fun f=>ti.mP[f]?) bE.toList ti.zero with
   | .st,some l=>pJ l fun l=>k (.c (.agg l)) bJ
   |_,_=>False
  |none=>False
 | .buildSlice T 0 bE=>match bE.toList with
  | []=>match elemOf aU T,o.dst with
   |some (e,te),some d=>match te.u with
    |some u=>g9 ids K B d=true/\k (.c (.one (.own d))) ⟨[],[d],[(d,some (.row e u []))]⟩
    |none=>False
   |_,_=>False
  |_=>False
 | .buildSlice T n bE=>match elemOf aU T with
  |some (_,te)=>match te.u with
   |some u=>match Nat.ble (n*te.size) 1000,vU K (fun i=>some (i*te.size,te.size)) bE.toList (EW n te.zero) with
    |true,some l=>match xr u n l with
     |some (xs,none)=>k (.c (.one (.d (.cf u xs)))) bJ
     |some (xs,some p)=>p/\k (.c (.one (.d (.cf u xs)))) bJ
     |none=>n=1/\ ∃y:aa u,(oS u y/\l=gr u y 0 (aS u))/\k (.c (.one (.d (.cf u [y])))) bJ
    |_,_=>False
   |none=>False
  |none=>False
 | .indexAddr T x i=>match elemOf aU T,a7 K i with
  |some (_,te),.c (.one (.d (.int .i64 n)))=>match a7 K x with
   | .c (.one (.d (.cf u xs)))=>match Nat.beq te.size (aS u) with
    |true=>0<=n/\ ∃y,fz xs n.toNat=some y/\k (.c (.one (.el u y 0))) bJ
    |false=>False
   | .c (.one (.own c))=>match aj B c with
    |some (.row _ u xs)=>match Nat.beq te.size (aS u) with
     |true=>(0<=n/\n < xs.length)/\k (.c (.one (.gj c (aS u) n.toNat 0))) ⟨[c],[],[]⟩
     |false=>False
    |_=>False
   |_=>False
  |_,_=>False
 | .index T x i=>match xw aU T,a7 K x,a7 K i with
  |true,.c (.one (.d (.str s))),.c (.one (.d (.int .i64 n)))=>0<=n/\ ∃y,fz s n.toNat=some y/\k (.c (.one (.d (.int .u8 (UInt8.toNat y:Int))))) bJ
  |_,_,_=>False
 | .slice T x hz aG none=>match a7 K x with
  | .c (.one (.own c))=>match elemOf aU T,aj B c with
   |some (_,te),some (.row _ u xs)=>match zD xs.length (hz.map (a7 K)) (aG.map (a7 K)),Nat.beq te.size (aS u) with
    |some (l,h,p),true=>p/\k (.c (.one (.os c (aS u) l (h - l)))) ⟨[c],[],[]⟩
    |_,_=>False
   |_,_=>False
  | .c (.one (.ptr c o))=>match hz,aG,Nat.beq o 0 with
   |none,none,true=>Jy aU T c B k
   |_,_,_=>False
  |_=>Jq aU T (a7 K x) (hz.map (a7 K)) (aG.map (a7 K)) k
 | .sliceToArrayPointer T x=>Jz aU T (a7 K x) k
 | .convert S T x=>Jp aU S T (a7 K x) B k
 | .lookup T x i ok=>Jt aU T (a7 K x) (a7 K i) ok B k
 | .mapUpdate T x i v=>Jv aU T (a7 K x) (a7 K i) (a7 K v) B k
 | .makeMap T none=>Jx aU T o.dst ids K B k
 | .makeFunc (.func f) fs cs=>match fs.toList,xv (cs.toList.map (a7 K)) with
  | [],some l=>k (.c (.one (.cY f l))) bJ
  |_,_=>False
 | .makeSlice T x y=>match elemOf aU T,a7 K x,a7 K y,o.dst with
  |some (e,te),.c (.one (.d (.int .i64 n))),.c (.one (.d (.int .i64 m))),some d=>match rq aU e with
   |true=>(n=m/\0<=n/\n<=4294967296)/\g9 ids K B d=true/\k (.c (.one (.own d))) ⟨[],[d],[(d,some (.row e .u8 (List.replicate n.toNat (0:UInt8))))]⟩
   |false=>False
  |_,_,_,_=>False
 | .call c=>match c.callee,c.args.toList with
  | .value (.func f),xs=>xt P f (xs.map (a7 K)) ids K B k
  | .value (.tmp t),xs=>match dI K t with
   | .c (.one (.cY f l))=>xt P f (xs.map (a7 K)++oW l) ids K B k
   | .c (.one (.d (.fn x)))=>xt P x.1 (xs.map (a7 K)++uv x.2) ids K B k
   |_=>False
  | .builtin .len,[x]=>match c.argTypes.toList with
   | [T]=>match Jo aU T B (a7 K x) with
    |some (n,ix)=>k (.c (.one (.d (.int .i64 (n:Int))))) ⟨ix,[],[]⟩
    |none=>False
   |_=>False
  | .builtin .delete,[x,y]=>match c.argTypes.toList with
   | [T,_]=>Jw aU T (a7 K x) (a7 K y) B k
   |_=>False
  | .builtin .min,[x,y]=>match a7 K x,a7 K y with
   | .c (.one (.d (.int .i64 a))),.c (.one (.d (.int .i64 b)))=>k (.c (.one (.d (.int .i64 (min a b))))) bJ
   |_,_=>False
  | .builtin .max,[x,y]=>match a7 K x,a7 K y with
   | .c (.one (.d (.int .i64 a))),.c (.one (.d (.int .i64 b)))=>k (.c (.one (.d (.int .i64 (max a b))))) bJ
   |_,_=>False
  | .builtin .copy,[x,y]=>match c.argTypes.toList with
   | [T,e3]=>JA aU T (a7 K x) (a7 K y) B k
   |_=>False
  | .builtin .append,[x,y]=>match c.argTypes.toList with
   | [T,e3]=>match Nat.beq T e3 with
    |true=>Jr aU T (a7 K x) (a7 K y) o.dst ids K B k
    |false=>Js aU T e3 (a7 K x) (a7 K y) o.dst ids K B k
   |_=>False
  |_,_=>E5 P ids o K B k
 |_=>E5 P ids o K B k
def E6 (K:aX) (B:ay) (x:Operand):Bool:=match a7 K x with
 | .c (.one (.mp c))=>match aj B c with
  |some (.aF _)=>true
  |_=>false
 |_=>false
def E7:aO->Bool
 | .c (.one (.d (.aL _)))=>true
 | .c (.one (.bM _))=>true
 |_=>false
def Px (K:aX) (B:ay) (x:Operand):Bool:=match a7 K x with
 | .c (.one (.ptr c _))=>match aj B c with
  |some (.val _ _)=>true
  |_=>false
 | .c (.one (.gj c _ _ _))=>match aj B c with
  |some (.val _ _)=>true
  |_=>false
 |_=>false
def YH (K:aX) (B:ay) (x:Operand):Bool:=match a7 K x with
 | .c (.one (.gj c _ _ _))=>match aj B c with
  |some (.row _ u _)=> !Nat.beq (aS u) 1
  |_=>false
 |_=>false
def Py:aO->Bool
 | .c (.agg _)=>true
 | .c (.kc _ _)=>true
 |_=>false
def JC (K:aX) (f:Nat):Bool:=match dI K (1000000+f) with
 | .undef=>true
 |_=>false
def YI (aU:dl) (o:Oper) (K:aX) (B:ay):Bool:=match o.op with
 | .lookup _ x _ _=>E6 K B x
 | .mapUpdate _ x _ _=>E6 K B x
 | .indexAddr _ x _=>match a7 K x with
  | .c (.one (.ptr _ _))=>true
  |_=>false
 | .nilCheck x=>E7 (a7 K x)
 | .fieldAddr _ x _=>E7 (a7 K x)
 | .load _ x=>E7 (a7 K x)||Px K B x
 | .store _ x _=>E7 (a7 K x)||Px K B x||YH K B x
 | .binOp op _ x y _=>match op with
  | .and=>true
  |_=>match y with
   | .const .nilFunc=>true
   | .const .nilIface=>true
   |_=>Py (a7 K x)||(match o.dst with
    |some d=>JC K (2000000+d)
    |none=>false)
 | .index _ x _=>Py (a7 K x)
 | .makeSlice T _ _=>match elemOf aU T with
  |some (e,_)=> !rq aU e
  |none=>false
 | .build T _=>match aU.find T with
  |some ti=>match ti.kd with
   | .arr _ _=>true
   |_=>false
  |none=>false
 | .buildSlice _ _ _=>match o.dst with
  |some d=>JC K (1000000+d)
  |none=>false
 | .call c=>match c.callee,c.args.toList with
  | .builtin .delete,x::_=>E6 K B x
  | .builtin .len,x::_=>E6 K B x
  | .value (.func f),_=>JC K f
  | .value (.tmp t),_=>match dI K t with
   | .c (.one (.bM _))=>true
   |_=>false
  |_,_=>false
 | .makeFunc _ fs _=>match fs.toList with
  | []=>false
  |_=>true
 |_=>false
def E8 (P:Program) (aU:dl) (ids:aA1) (o:Oper) (K:aX) (B:ay) (k:aO->fY->Prop):Prop:=match YI aU o K B with
 |true=>E5 P ids o K B k
 |false=>JB P aU ids o K B k
def BO (all:List Oper) (j:Nat):Option Nat:=match all[j]? with
 |some o=>o.dst
 |none=>none
def E9 (i:Nat):List Oper->Bool
 | []=>false
 |o::l=>match o.guard with
  |some (j,_)=>match Nat.beq j i with
   |true=>true
   |false=>E9 i l
  |none=>E9 i l
def uw (all:List Oper) (K:aX) (g:Option (Nat×Bool)):Option Bool:=match g with
 |none=>some true
 |some (j,want)=>match BO all j with
  |none=>none
  |some s=>match dI K s,want with
   | .c (.one (.d (.lit true))),true=>some true
   | .c (.one (.d (.lit true))),false=>some false
   | .c (.one (.d (.lit false))),true=>some false
   | .c (.one (.d (.lit false))),false=>some true
   | .undef,_=>some false
   |_,_=>none
structure kU where
 i:Nat
 v:aO
 e:fY
noncomputable def E' (P:Program) (aU:dl) (ids:aA1) (all:List Oper) (o:Oper) (l:List Oper) (bu:Nat->aX->ay->List kU->Prop) (i:Nat) (K:aX) (B:ay) (gu:List kU):Prop:=
 match uw all K o.guard with
 |none=>False
 |some false=>match o.dst with
  |some d=>bu (i+1) ((d,.undef)::K) B (⟨i,.undef,bJ⟩::gu)
  |none=>bu (i+1) K B (⟨i,.undef,bJ⟩::gu)
 |some true=>E8 P aU ids o K B fun v e=>match o.dst with
  |none=>xq e.hL B fun B=>bu (i+1) K B (⟨i,.undef,e⟩::gu)
  |some d=>match E9 i l,v with
   |true,.c (.one (.d (.bool b)))=>
    xq e.hL B fun B=>(b=true->bu (i+1) ((d,.c (.one (.d (.lit true))))::K) B (⟨i,.c (.one (.d (.lit true))),e⟩::gu))/\
    (b=false->bu (i+1) ((d,.c (.one (.d (.lit false))))::K) B (⟨i,.c (.one (.d (.lit false))),e⟩::gu))
   |_,v=>xq e.hL B fun B=>bu (i+1) ((d,v)::K) B (⟨i,v,e⟩::gu)
noncomputable def tx (P:Program) (aU:dl) (ids:aA1) (all:List Oper) (i:Nat) (l:List Oper) (K:aX) (B:ay) (gu:List kU) (k:aX->ay->List kU->Prop):Prop:=
 List.rec (motive:=fun _=>Nat->aX->ay->List kU->Prop) (fun _ K B gu=>k K B gu) (fun o l bu i K B gu=>E' P aU ids all o l bu i K B gu) l i K B gu
theorem Pz {P:Program} {aU:dl} {ids:aA1} {all:List Oper} {i:Nat} {o:Oper} {l:List Oper} {K:aX} {B:ay} {gu:List kU} {k:aX->ay->List kU->Prop}:
 tx P aU ids all i (o::l) K B gu k=E' P aU ids all o l (fun i K B gu=>tx P aU ids all i l K B gu k) i K B gu:=rfl
inductive nY where
 |g'
 |ex (id:Nat)
 |ret
def nY.to:nY->Exit
 | .g'=>.normal
 | .ex id=>.exit id
 | .ret=>.ret
abbrev oX (r:Option Nat):Fence:={fn:=fun _=>True,depth:=none,alive:=false,round:=r}
abbrev fi.at (C:fi) (ds:aA1):fi:={C with ds:=ds}
def ux (ids:aA1):Bool:=ids.contains 0
def bk (P:Program) (N:Nat) (ids:aA1) (c:Code) (K:aX) (B:ay) (Q:nY->aX->ay->Prop):Prop:=
 ∀r:Option Nat,(ux ids=false->r=none)-> ∀(C:fi) (il:Exit->Act->World->Prop),(∀e K' B' ds,(ux ids=true->ds=C.ds)->Q e K' B'-> ∀a w,fa N ids (C.at ds) K' B' a w->il e.to a w)-> ∀a w,fa N ids C K B a w->c.wpIn (oX r) 0 P il a w
def Fa (all:List Oper) (o:Oper):aA1:=(o.op.operands.toList.filterMap fun
 | .tmp t=>some t
 |_=>none)++(match o.guard with
 |some (j,_)=>(BO all j).toList
 |none=>[])
def qo (o:Oper):aA1:=(o.after.toList.filter fun e=>Region.binds .any e).map (·.on)
def zF:List Oper->List aA1->List aA1
 | [],acc=>acc
 |o::l,acc=>zF l (acc++[qo o++(qo o).flatMap fun d=>acc.getD d []])
def Fb (e:fY):aA1:=e.hL.map (·.1)
def zG (a b:aA1):Bool:=a.any fun x=>b.contains x
def zH (c:Nat):List (Nat×Option ba)->Bool
 | []=>false
 |(d,none)::l=>Nat.beq d c||zH c l
 |(d,some ch)::l=>Nat.beq d c||ch.has c||zH c l
def named (n:kU) (c:Nat):Bool:=n.v.has c||zH c n.e.hL
def apart (all:List Oper) (o p:Oper) (n m:kU):Bool:=
 !zG o.dst.toList (Fa all p++p.dst.toList)&& !zG p.dst.toList (Fa all o)&& !zG (Fb n.e) (m.e.ix++Fb m.e)&& !zG (Fb m.e) n.e.ix&& !n.e.bb.any (named m)&& !m.e.bb.any (named n)
def uy (all:List Oper) (an:List aA1):List (Oper×kU×Nat)->Bool
 | []=>true
 |(o,n,i)::l=>(l.all fun(p,m,j)=>(an.getD j []).contains i&& !m.e.bb.any (named n)||apart all o p n m)&&uy all an l
def vW (K:aX) (B:ay) (dg:List Oper) (gu:List kU):Bool:=
 let es:=gu.reverse
 (dg.zipIdx.all fun(o,i)=>(qo o).all fun d=>Nat.blt d i)&&(es.all fun n=>n.e.bb.all fun c=>ur c K&&kw c B)&&uy dg (zF dg []) ((dg.zip es).zipIdx.map fun((o,n),i)=>(o,n,i))
abbrev BP:=nY->aX->ay->Prop
noncomputable def jA (P:Program) (aU:dl) (N:Nat) (ids:aA1) (stops:aA1) (c:Code):aX->ay->BP->Prop:=
 Code.rec (motive:=fun _=>aX->ay->BP->Prop)
  (fun K B Q=>Q .g' K B)
  (fun id dg draw K B Q=>match stops.contains id with
   |true=>bk P N ids (.region id dg draw) K B Q
   |false=>match draw with
    |false=>tx P aU ids dg.toList 0 dg.toList K B [] fun K B _=>Q .g' K B
    |true=>tx P aU ids dg.toList 0 dg.toList K B [] fun K' B' gu=>vW K B dg.toList gu=true/\Q .g' K' B')
  (fun _ _ uz BQ K B Q=>uz K B fun e K B=>match e with
   | .g'=>BQ K B Q
   | .ex i=>Q (.ex i) K B
   | .ret=>Q .ret K B)
  (fun c _ _ PA PB K B Q=>match a7 K c with
   | .c (.one (.d (.lit true)))=>PA K B Q
   | .c (.one (.d (.lit false)))=>PB K B Q
   | .c (.one (.d (.bool b)))=>(b=true->PA K B Q)/\(b=false->PB K B Q)
   |_=>False)
  (fun i _ BQ K B Q=>BQ K B fun e K B=>match e with
   | .ex j=>match Nat.beq j i with
    |true=>Q .g' K B
    |false=>Q (.ex j) K B
   | .g'=>Q .g' K B
   | .ret=>Q .ret K B)
  (fun b _ K B Q=>bk P N ids (.loop b) K B Q)
  (fun f bE x b _ _ K B Q=>bk P N ids (.rangeFunc f bE x b) K B Q)
  (fun i K B Q=>Q (.ex i) K B)
  (fun _ BQ K B Q=>BQ K B Q)
  (fun _ K B Q=>Q .g' K B)
  (fun _ _ _ _=>False)
  (fun K B Q=>Q .ret K B)
  (fun _ _ _ _=>False) c
section
variable {P:Program} {aU:dl} {N:Nat} {ids stops:aA1} {K:aX} {B:ay} {Q:BP}
theorem YJ {id:Nat} {dg:Array Oper} {draw:Bool}:jA P aU N ids stops (.region id dg draw) K B Q=(match stops.contains id with
 |true=>bk P N ids (.region id dg draw) K B Q
 |false=>match draw with
  |false=>tx P aU ids dg.toList 0 dg.toList K B [] fun K B _=>Q .g' K B
  |true=>tx P aU ids dg.toList 0 dg.toList K B [] fun K' B' gu=>vW K B dg.toList gu=true/\Q .g' K' B'):=rfl
theorem YK {a b:Code}:jA P aU N ids stops (.seq a b) K B Q=jA P aU N ids stops a K B fun e K B=>match e with
 | .g'=>jA P aU N ids stops b K B Q
 | .ex i=>Q (.ex i) K B
 | .ret=>Q .ret K B:=rfl
theorem YL {c:Operand} {x y:Code}:jA P aU N ids stops (.cond c x y) K B Q=(match a7 K c with
 | .c (.one (.d (.lit true)))=>jA P aU N ids stops x K B Q
 | .c (.one (.d (.lit false)))=>jA P aU N ids stops y K B Q
 | .c (.one (.d (.bool b)))=>(b=true->jA P aU N ids stops x K B Q)/\(b=false->jA P aU N ids stops y K B Q)
 |_=>False):=rfl
theorem YM {i:Nat} {b:Code}:jA P aU N ids stops (.block i b) K B Q=jA P aU N ids stops b K B fun e K B=>match e with
 | .ex j=>match Nat.beq j i with
  |true=>Q .g' K B
  |false=>Q (.ex j) K B
 | .g'=>Q .g' K B
 | .ret=>Q .ret K B:=rfl
theorem YN {b:Code}:jA P aU N ids stops (.scope b) K B Q=jA P aU N ids stops b K B Q:=rfl
end
end Go.Proofs.YtkfbeijmgggkmaaGreat
