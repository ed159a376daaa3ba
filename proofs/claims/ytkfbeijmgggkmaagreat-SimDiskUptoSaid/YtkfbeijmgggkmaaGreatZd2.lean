/-
A part of the proof of this claim: lemmas, with no condition beyond what each says.
-/
import Derived.Test.YtkfbeijmgggkmaaGreatZd1
set_option linter.unusedVariables false
set_option linter.unusedSimpArgs false
set_option maxRecDepth 10000
set_option maxHeartbeats 4000000
namespace Go.Proofs.YtkfbeijmgggkmaaGreat
open Go.RowKit
inductive Pl where
 |int (k:IntKind)
 |bool
 |str
 |ptr (e:Nat)
 |b' (e:Nat)
 |st
 |arr (n e:Nat)
 |mp (k e:Nat)
 |other
structure ca where
 kd:Pl
 size:Nat
 row:Bool
 zero:List bB
 mE:List (Nat×Nat)
 u:Option bz
 bytes:Nat
inductive dg where
 |leaf
 |node (l:dg) (k:Nat) (x:ca) (r:dg)
def dg.find:dg->Nat->Option ca
 | .leaf,_=>none
 | .node l k x r,n=>match Nat.blt n k with
  |true=>l.find n
  |false=>match Nat.beq n k with
   |true=>some x
   |false=>r.find n
def zg (x:D) (k:D->Prop):Prop:=match x with
 | .int i n=>k (.int i n)
 | .lit true=>k (.lit true)
 | .lit false=>k (.lit false)
 | .bool b=>k (.bool b)
 | .str s=>k (.str s)
 | .aM x=>k (.aM x)
 | .dm x=>k (.dm x)
 | .fn x=>k (.fn x)
 | .co u xs=>k (.co u xs)
def zh (s:bB) (k:bB->Prop):Prop:=match s with
 | .d x=>zg x fun x=>k (.d x)
 | .ptr c o=>k (.ptr c o)
 | .own c=>k (.own c)
 | .el u x o=>k (.el u x o)
 | .gc c s i o=>k (.gc c s i o)
 | .os c s o n=>k (.os c s o n)
 | .mp c=>k (.mp c)
 | .cY f l=>k (.cY f l)
 | .dK=>k .dK
 | .bJ v=>k (.bJ v)
 | .any=>k .any
def pt (l:List bB) (k:List bB->Prop):Prop:=match l with
 | []=>k []
 |s::l=>zh s fun s=>pt l fun l=>k (s::l)
def xj (x:dP) (k:dP->Prop):Prop:=match x with
 | .one s=>zh s fun s=>k (.one s)
 | .agg l=>pt l fun l=>k (.agg l)
 | .kh u x=>k (.kh u x)
def EC (l:List dP) (k:List dP->Prop):Prop:=match l with
 | []=>k []
 |s::l=>xj s fun s=>EC l fun l=>k (s::l)
def oN (x:aP) (k:aP->Prop):Prop:=match x with
 | .c x=>xj x fun x=>k (.c x)
 | .ci l=>EC l fun l=>k (.ci l)
 | .undef=>k .undef
theorem IK (x:D) (k:D->Prop):zg x k=k x:=by
 cases x with
 |lit b=>cases b <;>rfl
 |_=>rfl
theorem IL (x:bB) (k:bB->Prop):zh x k=k x:=by
 cases x with
 |d x=>simp only[zh,IK]
 |_=>rfl
theorem zi (l:List bB) (k:List bB->Prop):pt l k=k l:=by
 induction l generalizing k with
 |nil=>rfl
 |cons s l bq=>simp only[pt,IL,bq]
theorem ED (x:dP) (k:dP->Prop):xj x k=k x:=by
 cases x with
 |one x=>simp only[xj,IL]
 |agg l=>simp only[xj,zi]
 |kh u x=>rfl
theorem Yx (l:List dP) (k:List dP->Prop):EC l k=k l:=by
 induction l generalizing k with
 |nil=>rfl
 |cons s l bq=>simp only[EC,ED,bq]
theorem sd (x:aP) (k:aP->Prop):oN x k=k x:=by
 cases x with
 |c x=>simp only[oN,ED]
 |ci l=>simp only[oN,Yx]
 |undef=>rfl
structure fP where
 jg:aC4
 bb:aC4
 iH:List (Nat×Option ba)
abbrev bF:fP:=⟨[],[],[]⟩
def hk:List (Nat×Option ba)->az->az
 | [],B=>B
 |(c,none)::l,B=>hk l (gS B c)
 |(c,some ch)::l,B=>hk l ((c,ch)::B)
def zj (c:Nat):aC4->Bool
 | []=>false
 |d::l=>match Nat.beq c d with
  |true=>true
  |false=>zj c l
def uh (ks:aC4):az->az
 | []=>[]
 |(c,ch)::B=>match zj c ks with
  |true=>uh ks B
  |false=>(c,ch)::uh ks B
theorem EE: ∀B:az,uh [] B=B
 | []=>rfl
 |(c,ch)::B=>congrArg ((c,ch):: ·) (EE B)
theorem Pm (c:Nat) (ks:aC4): ∀B:az,uh (c::ks) B=gS (uh ks B) c
 | []=>rfl
 |(d,ch)::B=>by
  have bq:=Pm c ks B;simp only[uh,zj]
  cases E:Nat.beq d c <;>cases G:zj d ks <;>simp only[gS,E,bq]
noncomputable def EF (ks:aC4) (B:az) (k:az->Prop):Prop:=match ks with
 | []=>k B
 |ks=>List.rec (motive:=fun _=>(az->Prop)->Prop) (fun k=>k []) (fun p _ bq k=>match p with
  |(c,ch)=>match zj c ks with
   |true=>bq k
   |false=>bq fun l=>k ((c,ch)::l)) B k
theorem Pn (ks:aC4) (B:az) (k:az->Prop):EF ks B k=k (uh ks B):=by
 match ks with
 | []=>exact congrArg k (EE B).symm
 |d::ks=>
  show List.rec (motive:=fun _=>(az->Prop)->Prop) _ _ B k=_
  induction B generalizing k with
  |nil=>rfl
  |cons p l bq=>
   obtain⟨c,ch⟩:=p;simp only[uh]
   cases h:zj c (d::ks)
   .exact bq _
   .exact bq _
noncomputable def IM (iH:List (Nat×Option ba)) (ks:aC4) (B:az) (k:az->Prop):Prop:=
 List.rec (motive:=fun _=>aC4->az->Prop) (fun ks B=>EF ks B k) (fun p _ bq ks B=>match p with
  |(c,none)=>bq (c::ks) B
  |(c,some ch)=>EF ks B fun B=>bq [] ((c,ch)::B)) iH ks B
noncomputable def xk (iH:List (Nat×Option ba)) (B:az) (k:az->Prop):Prop:=IM iH [] B k
theorem Yy (iH:List (Nat×Option ba)) (k:az->Prop): ∀(ks:aC4) (B:az),IM iH ks B k=k (hk iH (uh ks B)):=by
 induction iH with
 |nil=>exact fun ks B=>Pn ks B k
 |cons p l bq=>
  intro ks B;obtain⟨c,o⟩:=p
  cases o with
  |none=>exact(bq (c::ks) B).trans (by rw[Pm];rfl)
  |some ch=>
   show EF ks B (fun B=>IM l [] ((c,ch)::B) k)=_;rw[Pn,bq,EE];rfl
theorem IN (iH:List (Nat×Option ba)) (B:az) (k:az->Prop):xk iH B k=k (hk iH B):=(Yy iH k [] B).trans (by rw[EE])
def ui (c:Nat):aY->Bool
 | []=>true
 |(_,v)::K=> !v.has c&&ui c K
def kF (c:Nat):az->Bool
 | []=>true
 |(d,ch)::B=> !Nat.beq d c&& !ch.has c&&kF c B
def g6 (ids:aC4) (K:aY) (B:az) (c:Nat):Bool:=ui c K&&kF c B&& !ids.contains c
abbrev k1 (s:bB):aP:=.c (.one s)
abbrev ab (n:Int):aP:=.c (.one (.d (.int .i64 n)))
abbrev fI (b:Bool):aP:=.c (.one (.d (.bool b)))
abbrev q5 (b:Bool):aP:=.c (.one (.d (.lit b)))
abbrev bT (s:aC3):aP:=.c (.one (.d (.str s)))
abbrev bQ (u:bz) (xs:List (Z u)):aP:=.c (.one (.d (.co u xs)))
abbrev aq (c:Nat):aP:=.c (.one (.ptr c 0))
abbrev eM (c:Nat):aP:=.c (.one (.own c))
def bB.ok:bB->Bool
 | .any=>false
 | .bJ (.agg _)=>false
 | .bJ (.tuple _)=>false
 |_=>true
def EG:List bB->Bool
 | []=>true
 |s::l=>s.ok&&EG l
def vQ:aP->Option (List bB)
 | .c (.one s)=>match s.ok with
  |true=>some [s]
  |false=>none
 | .c (.agg l)=>match EG l with
  |true=>some l
  |false=>none
 |_=>none
def BE (l:List bB) (o:Nat) (cs:List bB):List bB:=l.take o++cs++l.drop (o+cs.length)
def vR (K:aY) (mE:Nat->Option (Nat×Nat)):List (Nat×Operand)->List bB->Option (List bB)
 | [],l=>some l
 |(i,x)::bD,l=>match mE i,vQ (a2 K x) with
  |some (o,n),some cs=>match Nat.beq cs.length n,Nat.ble (o+n) l.length with
   |true,true=>vR K mE bD (BE l o cs)
   |_,_=>none
  |_,_=>none
def q6:(u v:bz)->Option (PLift (u=v))
 | .int .i64,.int .i64=>some ⟨rfl⟩
 | .int .u8,.int .u8=>some ⟨rfl⟩
 | .int .u16,.int .u16=>some ⟨rfl⟩
 | .int .u32,.int .u32=>some ⟨rfl⟩
 | .int .u64,.int .u64=>some ⟨rfl⟩
 | .int .i32,.int .i32=>some ⟨rfl⟩
 | .u8,.u8=>some ⟨rfl⟩
 | .bool,.bool=>some ⟨rfl⟩
 | .str,.str=>some ⟨rfl⟩
 | .aM,.aM=>some ⟨rfl⟩
 | .dm,.dm=>some ⟨rfl⟩
 | .fn,.fn=>some ⟨rfl⟩
 | .b' u,.b' v=>match q6 u v with
  |some ⟨h⟩=>some ⟨congrArg bz.b' h⟩
  |none=>none
 | .bP u tf,.bP v df=>match q6 u v,q6 tf df with
  |some ⟨h⟩,some ⟨h'⟩=>some ⟨h▸h'▸rfl⟩
  |_,_=>none
 | .arr n u,.arr m v=>match q6 u v with
  |some ⟨h⟩=>if hn:n=m then some ⟨hn▸h▸rfl⟩ else none
  |none=>none
 |_,_=>none
def l7:IntKind->IntKind->Bool
 | .i64,.i64=>true
 | .u8,.u8=>true
 | .u16,.u16=>true
 | .u32,.u32=>true
 | .u64,.u64=>true
 | .i32,.i32=>true
 | .i16,.i16=>true
 | .i8,.i8=>true
 |_,_=>false
def nO {u v:bz} (h:u=v) (xs:List (Z u)):List (Z v):=match v,h with
 |_,rfl=>xs
def iOz {u v:bz} (h:u=v) (x:Z u):Z v:=match v,h with
 |_,rfl=>x
def IP (x y:D):Prop:=match x,y with
 | .int k a,.int dZ b=>match l7 k dZ with
  |true=>a=b
  |false=>False
 | .str a,.str b=>a=b
 | .aM a,.aM b=>a=b
 | .dm a,.dm b=>a=b
 | .fn a,.fn b=>a=b
 | .bool a,.bool b=>a=b
 | .lit a,.lit b=>a=b
 | .lit a,.bool b=>a=b
 | .co u xs,.co v ys=>match q6 u v with
  |some ⟨h⟩=>nO h xs=ys
  |none=>False
 |_,_=>False
def EH (s t:bB):Prop:=match t,s with
 | .any,_=>True
 | .d y,.d x=>IP x y
 | .d (.co u ys),.dK=>ys=[]
 |t,s=>s=t
def EI:List bB->List bB->Prop
 | [],[]=>True
 |s::l,t::m=>EH s t/\EI l m
 |_,_=>False
def EJ (s t:dP):Prop:=match s,t with
 | .one s,.one t=>EH s t
 | .agg l,.agg m=>EI l m
 | .agg _,.one .any=>True
 | .kh u x,.kh v y=>match q6 u v with
  |some ⟨h⟩=>iOz h x=y
  |none=>False
 | .kh _ _,.one .any=>True
 |_,_=>False
def IQ:List dP->List dP->Prop
 | [],[]=>True
 |s::l,t::m=>EJ s t/\IQ l m
 |_,_=>False
def tg (s t:aP):Prop:=match s,t with
 | .c s,.c t=>EJ s t
 | .ci l,.ci m=>IQ l m
 | .undef,.undef=>True
 |_,.c (.one .any)=>True
 |_,_=>False
def EK:List aP->List aP->Prop
 | [],[]=>True
 |s::l,t::m=>tg s t/\EK l m
 |_,_=>False
def IR:Option Prop->Option Prop->Option Prop
 |none,q=>q
 |some p,none=>some p
 |some p,some q=>some (p/\q)
def uj:Option Prop->Prop
 |none=>True
 |some p=>p
def IS (k:IntKind):List bB->Option (Int×List bB×Option Prop)
 | .d (.int dZ n)::l=>match l7 dZ k with
  |true=>some (n,l,none)
  |false=>none
 |_=>none
def IT:List bB->Option (UInt8×List bB×Option Prop)
 | .d (.int dZ n)::l=>match l7 dZ .u8 with
  |true=>some (UInt8.ofNat n.toNat,l,some (0<=n/\n < 256))
  |false=>none
 |_=>none
def IU:List bB->Option (Bool×List bB×Option Prop)
 | .d (.lit b)::l=>some (b,l,none)
 | .d (.bool b)::l=>some (b,l,none)
 |_=>none
def IV:List bB->Option (aC3×List bB×Option Prop)
 | .d (.str s)::l=>some (s,l,none)
 |_=>none
def IW:List bB->Option (Option Nat×List bB×Option Prop)
 | .d (.aM x)::l=>some (x,l,none)
 | .bJ (.pointer none)::l=>some (none,l,none)
 |_=>none
def IX:List bB->Option (Option (Nat×Nat×Nat)×List bB×Option Prop)
 | .d (.dm x)::l=>some (x,l,none)
 | .dK::l=>some (none,l,none)
 |_=>none
def BF:List kZ->Option aC4
 | []=>some []
 | .d (.aM (some b))::l=>match BF l with
  |some r=>some (b::r)
  |none=>none
 |_=>none
def IY:List bB->Option ((Nat×aC4)×List bB×Option Prop)
 | .d (.fn x)::l=>some (x,l,none)
 | .cY f m::l=>match BF m with
  |some bs=>some ((f,bs),l,none)
  |none=>none
 |_=>none
def IZ (u:bz):List bB->Option (List (Z u)×List bB×Option Prop)
 | .dK::l=>some ([],l,none)
 | .d (.co v xs)::l=>match q6 v u with
  |some ⟨h⟩=>some (nO h xs,l,none)
  |none=>none
 |_=>none
def nP:(u:bz)->List bB->Option (Z u×List bB×Option Prop)
 | .int k,l=>IS k l
 | .u8,l=>IT l
 | .bool,l=>IU l
 | .str,l=>IV l
 | .aM,l=>IW l
 | .dm,l=>IX l
 | .fn,l=>IY l
 | .b' u,l=>IZ u l
 | .bP u v,l=>match nP u l with
  |some (x,l,p)=>match nP v l with
   |some (y,l,q)=>some ((x,y),l,IR p q)
   |none=>none
  |none=>none
 | .arr _ _,_=>none
def xl (u:bz):Nat->List bB->Option (List (Z u)×Option Prop)
 |0,[]=>some ([],none)
 |0,_=>none
 |n+1,l=>match nP u l with
  |some (x,l,p)=>match xl u n l with
   |some (xs,q)=>some (x::xs,IR p q)
   |none=>none
  |none=>none
def EL (n:Nat) (l:List bB):List bB:=match n with
 |0=>[]
 |n+1=>l++EL n l
def gq (u:bz) (x:Z u) (o:Nat):Nat->List bB
 |0=>[]
 |n+1=>.d (fD u x o)::gq u x (o+1) n
def uk (k:IntKind) (n:Int):Prop:=match k with
 | .i64=> -9223372036854775808<=n/\n<=9223372036854775807
 | .u8=>0<=n/\n < 256
 | .u16=>0<=n/\n < 65536
 | .u32=>0<=n/\n < 4294967296
 | .u64=>0<=n/\n < 18446744073709551616
 | .i32=> -2147483648<=n/\n<=2147483647
 | .i16=> -32768<=n/\n<=32767
 | .i8=> -128<=n/\n<=127
def jA (P:Program) (f:FuncId):Bool:=match P.funcs[f]? with
 |some fn=> !(fn.name == "runtime.NumGoroutine" ||fn.body.isNone)
 |none=>false
def Fn (P:Program) (f:FuncId) (args:List aP) (aJ:az) (bb:aC4) (res:aP) (aO:az):Prop:=
 jA P f=true/\ ∀(ρ:Nat->bn) (F:Nat->Nat->Prop) (I:Nat->Prop) (w:World) (bU:List Value),
  (∀b,I b->b < w.heap.size)->(∀c ch,ag aJ c=some ch->Holds ρ I (F c) w (ρ c) ch)->(∀c ch,ag aJ c=some ch-> ∀b,F c b->b < w.heap.size/\ ¬I b)->
  (∀c b9 ch ch' b,ag aJ c=some ch->ag aJ b9=some ch'->c≠b9->F c b-> ¬F b9 b)->
  bU.length=args.length->(∀(i:Nat) (v:aP) (x:Value),args[i]? =some v->bU[i]? =some x->cw ρ I w v x)->
  Calls P f bU.toArray w fun e w'=> ∃(x:Value) (ρ':Nat->bn) (F':Nat->Nat->Prop),e= .returned x/\cS (fun b=> ∃c ch,ag aJ c=some ch/\F c b) w w'/\(∀c,c∉bb->ρ' c=ρ c)/\
   ∃I':Nat->Prop,cm I w I' w'/\(∀b,I' b->b < w'.heap.size/\(I b\/(∃c ch,ag aJ c=some ch/\F c b)\/w.heap.size<=b))/\
   (∀c ch,ag aO c=some ch->Holds ρ' I' (F' c) w' (ρ' c) ch)/\
   (∀c ch,ag aO c=some ch-> ∀b,F' c b->b < w'.heap.size/\ ¬I' b/\((∃gT cz,ag aJ gT=some cz/\F gT b)\/w.heap.size<=b))/\
   (∀c b9 ch ch' b,ag aO c=some ch->ag aO b9=some ch'->c≠b9->F' c b-> ¬F' b9 b)/\cw ρ' I' w' res x
def k2 (B:az):az->Prop
 | []=>True
 |(c,ch)::l=>ag B c=some ch/\k2 B l
def cr:az->aC4
 | []=>[]
 |(c,_)::l=>c::cr l
def I0:az->List (Nat×Option ba)
 | []=>[]
 |(c,ch)::l=>(c,some ch)::I0 l
def iI:az->az->List (Nat×Option ba)
 | [],m=>I0 m
 |(c,_)::l,m=>(c,none)::iI l m
def mF (aJ:az) (bb:aC4):az->Bool
 | []=>true
 |(c,_)::l=>((cr aJ).contains c||bb.contains c)&& !(cr l).contains c&&mF aJ bb l
def se (ids:aC4) (K:aY) (B:az):aC4->Bool
 | []=>true
 |c::l=>g6 ids K B c&& !l.contains c&&se ids K B l
def xm (P:Program) (f:FuncId) (args:List aP) (ids:aC4) (K:aY) (B:az) (k:aP->fP->Prop):Prop:=
 ∃aJ bb res aO,Fn P f args aJ bb res aO/\k2 B aJ/\(se ids K B bb&&mF aJ bb aO)=true/\oN res fun r=>k r ⟨cr aJ,bb,iI aJ aO⟩
def nQ (k:IntKind) (n:Int) (q:Prop):Prop:=match k with
 | .i64=>(-9223372036854775808<=n/\n<=9223372036854775807)/\q
 | .u8=>(0<=n/\n < 256)/\q
 | .u16=>(0<=n/\n < 65536)/\q
 | .u32=>(0<=n/\n < 4294967296)/\q
 | .u64=>(0<=n/\n < 18446744073709551616)/\q
 | .i32=>(-2147483648<=n/\n<=2147483647)/\q
 | .i16=>(-32768<=n/\n<=32767)/\q
 | .i8=>(-128<=n/\n<=127)/\q
theorem xn {k:IntKind} {n:Int} {q:Prop} (h:nQ k n q):uk k n/\q:=by cases k <;>exact h
def xo:List aP->Option (List kZ)
 | []=>some []
 | .c (.one (.ptr c o))::l=>match xo l with
  |some r=>some (.p c o::r)
  |none=>none
 | .c (.one (.d x))::l=>match xo l with
  |some r=>some (.d x::r)
  |none=>none
 |_=>none
def ul:aC4->List aP
 | []=>[]
 |b::l=>.c (.one (.d (.aM (some b))))::ul l
def oO:List kZ->List aP
 | []=>[]
 | .p c o::l=>.c (.one (.ptr c o))::oO l
 | .d x::l=>.c (.one (.d x))::oO l
def EM (op:BinOp) (x y:aP) (k:aP->fP->Prop):Prop:=match x,y with
 | .c (.one (.d (.int i a))),.c (.one (.d (.int j b)))=>match l7 i j,op with
  |true,.add=>nQ i (a+b) (k (.c (.one (.d (.int i (a+b))))) bF)
  |true,.sub=>nQ i (a - b) (k (.c (.one (.d (.int i (a - b))))) bF)
  |true,.mul=>nQ i (a*b) (k (.c (.one (.d (.int i (a*b))))) bF)
  |true,.quo=>(0<=a/\0 < b)/\nQ i (a/b) (k (.c (.one (.d (.int i (a/b))))) bF)
  |true,.rem=>(0<=a/\0 < b)/\nQ i (a % b) (k (.c (.one (.d (.int i (a % b))))) bF)
  |_,.shl=>match l7 i .i64 with
   |true=>(0<=a/\0<=b/\b<=64)/\nQ i (a*(2 ^b.toNat:Nat)) (k (.c (.one (.d (.int i (a*(2 ^b.toNat:Nat)))))) bF)
   |false=>False
  |_,.shr=>match l7 i .i64 with
   |true=>(0<=a/\0<=b/\b<=64)/\k (.c (.one (.d (.int i (a/(2 ^b.toNat:Nat)))))) bF
   |false=>False
  |true,.or=>match l7 i .i64 with
   |true=>(0<=a/\a<=9223372036854775807/\0<=b/\b<=9223372036854775807)/\k (.c (.one (.d (.int i ((a.toNat ||| b.toNat:Nat):Int))))) bF
   |false=>False
  |true,.eql=>k (.c (.one (.d (.bool (decide (a=b)))))) bF
  |true,.neq=>k (.c (.one (.d (.bool (!decide (a=b)))))) bF
  |true,.lss=>k (.c (.one (.d (.bool (decide (a < b)))))) bF
  |true,.leq=>k (.c (.one (.d (.bool (decide (a<=b)))))) bF
  |true,.gtr=>k (.c (.one (.d (.bool (decide (b < a)))))) bF
  |true,.geq=>k (.c (.one (.d (.bool (decide (b<=a)))))) bF
  |_,_=>False
 | .c (.one (.d (.str a))),.c (.one (.d (.str b)))=>match op with
  | .add=>a.length+b.length<=4294967296/\k (.c (.one (.d (.str (a++b))))) bF
  | .eql=>k (.c (.one (.d (.bool (decide (a=b)))))) bF
  | .neq=>k (.c (.one (.d (.bool (!decide (a=b)))))) bF
  | .lss=>k (.c (.one (.d (.bool (Op.bytesLess a b))))) bF
  | .leq=>k (.c (.one (.d (.bool (Op.bytesLess a b||decide (a=b)))))) bF
  | .gtr=>k (.c (.one (.d (.bool (!(Op.bytesLess a b||decide (a=b))))))) bF
  | .geq=>k (.c (.one (.d (.bool (!Op.bytesLess a b))))) bF
  |_=>False
 | .c (.one (.ptr _ _)),.c (.one (.bJ (.pointer none)))=>match op with
  | .eql=>k (.c (.one (.d (.lit false)))) bF
  | .neq=>k (.c (.one (.d (.lit true)))) bF
  |_=>False
 | .c (.one (.bJ (.pointer none))),.c (.one (.bJ (.pointer none)))=>match op with
  | .eql=>k (.c (.one (.d (.lit true)))) bF
  | .neq=>k (.c (.one (.d (.lit false)))) bF
  |_=>False
 |_,_=>False
def I1 (aS:dg) (T:Nat):Bool:=match aS.find T with
 |some ti=>match ti.kd with
  | .ptr _=>true
  |_=>false
 |none=>false
def zk (aS:dg) (T:Nat):Bool:=match aS.find T with
 |some ti=>match ti.kd with
  | .ptr e=>match aS.find e with
   |some _=>true
   |none=>false
  |_=>false
 |none=>false
def EN (aS:dg) (T:Nat) (x:Option Nat) (y:aP) (k:Bool->Prop):Prop:=match y with
 | .c (.one (.bJ (.pointer none)))=>(∀b,x=some b->k false)/\(x=none->k true)
 | .c (.one (.d (.aM y)))=>match zk aS T with
  |true=>x=y/\k true
  |false=>False
 |_=>False
def EO (aS:dg) (T:Nat) (op:BinOp) (x y:aP) (k:aP->fP->Prop):Prop:=match x with
 | .c (.one (.d (.aM x)))=>match op with
  | .eql=>EN aS T x y fun b=>k (.c (.one (.d (.lit b)))) bF
  | .neq=>EN aS T x y fun b=>k (.c (.one (.d (.lit !b)))) bF
  |_=>False
 |x=>EM op x y k
def EP (aS:dg) (T:Nat):Bool:=match aS.find T with
 |some ti=>match ti.kd with
  | .bool=>true
  |_=>false
 |none=>false
def EQ (op:BinOp) (a:Bool) (y:aP) (k:aP->fP->Prop):Prop:=match op,y with
 | .eql,.c (.one (.d (.bool b)))=>k (.c (.one (.d (.bool (a == b))))) bF
 | .eql,.c (.one (.d (.lit b)))=>k (.c (.one (.d (.bool (a == b))))) bF
 | .neq,.c (.one (.d (.bool b)))=>k (.c (.one (.d (.bool (!(a == b)))))) bF
 | .neq,.c (.one (.d (.lit b)))=>k (.c (.one (.d (.bool (!(a == b)))))) bF
 |_,_=>False
def I2 (aS:dg) (T f:Nat):Option (Nat×Nat):=match aS.find T with
 |some ti=>match ti.kd with
  | .st=>ti.mE[f]?
  |_=>none
 |none=>none
def elemOf (aS:dg) (T:Nat):Option (Nat×ca):=match aS.find T with
 |some ti=>match ti.kd with
  | .b' e=>match aS.find e with
   |some te=>some (e,te)
   |none=>none
  |_=>none
 |none=>none
def xp (aS:dg) (T:Nat):Bool:=match aS.find T with
 |some ti=>match ti.kd with
  | .str=>true
  |_=>false
 |none=>false
def xq (aS:dg) (T:Nat):Option (Nat×Nat):=match aS.find T with
 |some ti=>match ti.kd with
  | .mp k e=>some (k,e)
  |_=>none
 |none=>none
def I3 (aS:dg) (T:Nat) (B:az) (x:aP):Option (Nat×aC4):=match x with
 | .c (.one (.d (.str s)))=>match xp aS T with
  |true=>some (s.length,[])
  |false=>none
 | .c (.one (.d (.co _ xs)))=>match elemOf aS T with
  |some _=>some (xs.length,[])
  |none=>none
 | .c (.one .dK)=>match elemOf aS T with
  |some _=>some (0,[])
  |none=>none
 | .c (.one (.own c))=>match elemOf aS T with
  |some _=>match ag B c with
   |some (.row _ _ xs)=>some (xs.length,[c])
   |_=>none
  |none=>none
 | .c (.one (.mp c))=>match xq aS T with
  |some _=>match ag B c with
   |some (.map _ _ es)=>some (es.length,[c])
   |_=>none
  |none=>none
 |_=>none
def q7 (aS:dg) (e:Nat):Bool:=match aS.find e with
 |some te=>match te.kd,te.zero,te.size,te.bytes with
  | .int .u8,[.d (.int .u8 0)],1,1=>true
  |_,_,_,_=>false
 |none=>false
def I4 (aS:dg) (S T:Nat) (x:aP) (B:az) (k:aP->fP->Prop):Prop:=match aS.find S,aS.find T with
 |some Po,some ti=>match Po.kd,ti.kd,x with
  | .int i,.int j,.c (.one (.d (.int _ n)))=>match l7 j .u8,l7 i .u8 with
   |true,false=>k (.c (.one (.d (.int j (n % 256))))) bF
   |_,_=>nQ j n (k (.c (.one (.d (.int j n)))) bF)
  | .str,.b' e,.c (.one (.d (.str s)))=>match q7 aS e with
   |true=>s.length<=4294967296/\k (.c (.one (.d (.co .u8 s)))) bF
   |false=>False
  | .b' e,.str,.c (.one (.d (.co .u8 s)))=>match q7 aS e with
   |true=>k (.c (.one (.d (.str s)))) bF
   |false=>False
  | .b' e,.str,.c (.one .dK)=>match q7 aS e with
   |true=>k (.c (.one (.d (.str [])))) bF
   |false=>False
  | .b' e,.str,.c (.one (.own c))=>match ag B c,q7 aS e with
   |some (.row _ .u8 s),true=>k (.c (.one (.d (.str s)))) ⟨[c],[],[]⟩
   |_,_=>False
  |_,_,_=>False
 |_,_=>False
def zl (n:Nat) (ia aF:Option aP):Option (Nat×Nat×Prop):=match ia,aF with
 |none,some (.c (.one (.d (.int .i64 j))))=>some (0,j.toNat,0<=j/\j<=n)
 |some (.c (.one (.d (.int .i64 i)))),none=>some (i.toNat,n,0<=i/\i<=n)
 |some (.c (.one (.d (.int .i64 i)))),some (.c (.one (.d (.int .i64 j))))=>some (i.toNat,j.toNat,0<=i/\i<=j/\j<=n)
 |none,none=>some (0,n,True)
 |_,_=>none
def I5 (aS:dg) (T:Nat) (x:aP) (ia aF:Option aP) (k:aP->fP->Prop):Prop:=match x with
 | .c (.one (.d (.str s)))=>match xp aS T,zl s.length ia aF with
  |true,some (l,h,p)=>p/\k (.c (.one (.d (.str ((s.take h).drop l))))) bF
  |_,_=>False
 | .c (.one (.d (.co u xs)))=>match elemOf aS T,zl xs.length ia aF with
  |some (_,te),some (l,h,p)=>match Nat.beq te.size (aQ u) with
   |true=>p/\k (.c (.one (.d (.co u ((xs.take h).drop l))))) bF
   |false=>False
  |_,_=>False
 |_=>False
def I6 (aS:dg) (T:Nat) (x y:aP) (dst:Option Nat) (ids:aC4) (K:aY) (B:az) (k:aP->fP->Prop):Prop:=match elemOf aS T,dst with
 |some (e,te),some d=>match te.u,y with
  |some u,.c (.one (.d (.co v ys)))=>match q6 v u with
   |some ⟨h⟩=>match x with
    | .c (.one .dK)=>ys.length<=4294967296/\g6 ids K B d=true/\k (.c (.one (.own d))) ⟨[],[d],[(d,some (.row e u (nO h ys)))]⟩
    | .c (.one (.own c))=>match ag B c with
     |some (.row b7 tf xs)=>match Nat.beq b7 e,q6 tf u with
      |true,some ⟨h'⟩=>xs.length+ys.length<=4294967296/\g6 ids K B d=true/\k (.c (.one (.own d))) ⟨[c],[d],[(c,none),(d,some (.row e u (nO h' xs++nO h ys)))]⟩
      |_,_=>False
     |_=>False
    |_=>False
   |none=>False
  |some u,.c (.one (.own cE))=>match x with
   | .c (.one (.own c))=>match ag B c,ag B cE with
    |some (.row b7 tf xs),some (.row ao v ys)=>match Nat.beq c cE,Nat.beq b7 e,q6 v u,q6 tf u with
     |false,true,some ⟨h⟩,some ⟨h'⟩=>xs.length+ys.length<=4294967296/\g6 ids K B d=true/\k (.c (.one (.own d))) ⟨[c,cE],[d],[(c,none),(d,some (.row e u (nO h' xs++nO h ys)))]⟩
     |_,_,_,_=>False
    |_,_=>False
   |_=>False
  |_,_=>False
 |_,_=>False
def I7 (aS:dg) (T eJ:Nat) (x y:aP) (dst:Option Nat) (ids:aC4) (K:aY) (B:az) (k:aP->fP->Prop):Prop:=match elemOf aS T,xp aS eJ,dst with
 |some (e,te),true,some d=>match x,y with
  | .c (.one (.own c)),.c (.one (.d (.str s)))=>match q7 aS e,ag B c with
   |true,some (.row b7 .u8 xs)=>match Nat.beq b7 e with
    |true=>List.length (α:=UInt8) xs+s.length<=4294967296/\g6 ids K B d=true/\k (.c (.one (.own d))) ⟨[c],[d],[(c,none),(d,some (.row e .u8 (List.append (α:=UInt8) xs s)))]⟩
    |false=>False
   |_,_=>False
  |_,_=>False
 |_,_,_=>False
def xr:(aI:bz)->aP->Option (Z aI)
 | .int k,.c (.one (.d (.int dZ n)))=>match l7 dZ k with
  |true=>some n
  |false=>none
 | .str,.c (.one (.d (.str s)))=>some s
 |_,_=>none
def zm:(u:bz)->Z u->dP
 | .bP u v,x=>.agg (gq (.bP u v) x 0 (aQ (.bP u v)))
 | .arr n u,x=>.agg (gq (.arr n u) x 0 (aQ (.arr n u)))
 | .int k,x=>.one (.d (fD (.int k) x 0))
 | .u8,x=>.one (.d (fD .u8 x 0))
 | .bool,x=>.one (.d (fD .bool x 0))
 | .str,x=>.one (.d (fD .str x 0))
 | .aM,x=>.one (.d (fD .aM x 0))
 | .dm,x=>.one (.d (fD .dm x 0))
 | .fn,x=>.one (.d (fD .fn x 0))
 | .b' u,x=>.one (.d (fD (.b' u) x 0))
def ER:bB->D->Bool
 | .d (.int k n),.int dZ m=>l7 k dZ&&decide (n=m)
 | .d (.str []),.str []=>true
 | .bJ (.pointer none),.aM none=>true
 | .dK,.dm none=>true
 | .d (.lit b),.bool c=>b == c
 | .dK,.co _ []=>true
 |_,_=>false
def iJ:List bB->List bB->Bool
 | [],[]=>true
 |s::l,.d x::m=>ER s x&&iJ l m
 |_,_=>false
def xt (aS:dg) (kt:Nat) (aI:bz):Bool:=match aS.find kt with
 |some ti=>match ti.kd,aI with
  | .int k,.int dZ=>l7 k dZ
  | .str,.str=>true
  |_,_=>false
 |none=>false
def ES (aS:dg) (et:Nat) (aK:bz):Bool:=match aS.find et with
 |some ti=>iJ ti.zero (gq aK (cO aK) 0 (aQ aK))&&(ti.row == !m9 aK)&&(m9 aK||Nat.ble 2 (aQ aK))
 |none=>false
def I8 (aS:dg) (T:Nat) (x i:aP) (ok:Bool) (B:az) (k:aP->fP->Prop):Prop:=match x with
 | .c (.one (.mp c))=>match ag B c with
  |some (.map aI aK es)=>match xq aS T,xr aI i with
   |some (kt,et),some key=>match xt aS kt aI&&ES aS et aK,ok with
    |true,true=>xj (zm aK ((bY es key).getD (cO aK))) fun x=>k (.ci [x,.one (.d (.bool (bY es key).isSome))]) ⟨[c],[],[]⟩
    |true,false=>xj (zm aK ((bY es key).getD (cO aK))) fun x=>k (.c x) ⟨[c],[],[]⟩
    |false,_=>False
   |_,_=>False
  |_=>False
 |_=>False
def I9 (u:bz) (x:aP):Option (Z u×Option Prop):=match x with
 | .c (.kh v y)=>match q6 v u,m9 u with
  |some ⟨h⟩,false=>some (iOz h y,none)
  |_,_=>none
 | .c (.one s)=>match m9 u,nP u [s] with
  |true,some (y,[],p)=>some (y,p)
  |_,_=>none
 | .c (.agg l)=>match m9 u,nP u l with
  |false,some (y,[],p)=>some (y,p)
  |_,_=>none
 |_=>none
def Ja (aS:dg) (T:Nat) (x i v:aP) (B:az) (k:aP->fP->Prop):Prop:=match x with
 | .c (.one (.mp c))=>match ag B c with
  |some (.map aI aK es)=>match xq aS T,xr aI i with
   |some (kt,et),some key=>match xt aS kt aI,I9 aK v with
    |true,some (y,p)=>uj p/\k .undef ⟨[c],[],[(c,some (.map aI aK (dx es key y)))]⟩
    |true,none=>match v,m9 aK with
     | .c (.agg l),false=> ∃y:Z aK,(oK aK y/\l=gq aK y 0 (aQ aK))/\k .undef ⟨[c],[],[(c,some (.map aI aK (dx es key y)))]⟩
     |_,_=>False
    |false,_=>False
   |_,_=>False
  |_=>False
 |_=>False
def Jb (aS:dg) (T:Nat) (x i:aP) (B:az) (k:aP->fP->Prop):Prop:=match x with
 | .c (.one (.mp c))=>match ag B c with
  |some (.map aI aK es)=>match xq aS T,xr aI i with
   |some (kt,et),some key=>match xt aS kt aI with
    |true=>k (.ci []) ⟨[c],[],[(c,some (.map aI aK (gM es key)))]⟩
    |false=>False
   |_,_=>False
  |_=>False
 |_=>False
def Jc (aS:dg) (T:Nat) (dst:Option Nat) (ids:aC4) (K:aY) (B:az) (k:aP->fP->Prop):Prop:=match xq aS T,dst with
 |some (kt,et),some d=>match aS.find kt,aS.find et with
  |some Pp,some vS=>match Pp.u,vS.u with
   |some aI,some aK=>g6 ids K B d=true/\k (.c (.one (.mp d))) ⟨[],[d],[(d,some (.map aI aK []))]⟩
   |_,_=>False
  |_,_=>False
 |_,_=>False
def Jd (aS:dg) (T c:Nat) (B:az) (k:aP->fP->Prop):Prop:=match aS.find T with
 |some ti=>match ti.kd,ti.u with
  | .arr n e,some (.arr m v)=>match Nat.beq n m&&Nat.ble n 1000000&&Nat.blt 0 n,aS.find e,ag B c with
   |true,some _,some (.cells l)=> ∃ys:List (Z v),(oK (.arr n v) ys/\l=gq (.arr n v) ys 0 (aQ (.arr n v)))/\k (.c (.one (.d (.co v ys)))) ⟨[c],[],[(c,none)]⟩
   |_,_,_=>False
  |_,_=>False
 |none=>False
def Je (aS:dg) (T:Nat) (x:aP) (k:aP->fP->Prop):Prop:=match aS.find T,x with
 |some ti,.c (.one (.d (.co v xs)))=>match ti.kd with
  | .arr n _=>(0 < n/\n<=List.length xs)/\k (.c (.one (.el (.arr n v) (List.take n xs) 0))) bF
  |_=>False
 |_,_=>False
def bA (P:Program) (N:Nat) (ids:aC4) (o:Oper) (K:aY) (B:az) (v:aP) (e:fP):Prop:=
 ∀(K':aY) (B':az),(∀x,x∈o.op.operands->a2 K' x=a2 K x)->(∀c,c∈e.jg->ag B' c=ag B c)->(∀c,c∈e.bb->g6 ids K' B' c=true)->
  ∀(C:fg) (a:Act) (w:World),e2 N ids C K' B' a w->(∀d,o.dst=some d->d < N)-> ∀(fJ:Act->World->Prop) (Q:Exit->Act->World->Prop),
   (∀a' w',e2 N ids C (mD o.dst v K') (hk e.iH B') a' w'->fJ a' w')->o.wp P a w fJ Q
def laid (xs:aC3) (off n:Nat) (ys:aC3):aC3:=xs.take off++ys.take n++xs.drop (off+(ys.take n).length)
def ET (c off n:Nat) (ys:aC3) (B:az) (k:aP->fP->Prop):Prop:=match ag B c with
 |some (.row e .u8 xs)=>off+n<=xs.length/\k (.c (.one .any)) ⟨[c],[],[(c,some (.row e .u8 (laid xs off n ys)))]⟩
 |_=>False
def Jf (aS:dg) (T:Nat) (x y:aP) (B:az) (k:aP->fP->Prop):Prop:=match elemOf aS T with
 |some (e,_)=>match q7 aS e,y with
  |true,.c (.one (.d (.co .u8 ys)))=>match x with
   | .c (.one (.own c))=>match ag B c with
    |some (.row _ .u8 xs)=>ET c 0 (List.length xs) ys B k
    |_=>False
   | .c (.one (.os c s off n))=>match Nat.beq s 1 with
    |true=>ET c off n ys B k
    |false=>False
   |_=>False
  |_,_=>False
 |none=>False
def Yz:aP->Bool
 | .c (.one (.own _))=>true
 |_=>false
def BG (P:Program) (ids:aC4) (o:Oper) (K:aY) (B:az) (k:aP->fP->Prop):Prop:=
 ∃v e,(∀N,bA P N ids o K B v e)/\se ids K B e.bb=true/\oN v fun v=>k v e
def Jg (P:Program) (aS:dg) (ids:aC4) (o:Oper) (K:aY) (B:az) (k:aP->fP->Prop):Prop:=match o.op with
 | .move x=>oN (a2 K x) fun v=>k v bF
 | .assign x=>oN (a2 K x) fun v=>k v bF
 | .pick c x y=>match a2 K c with
  | .c (.one (.d (.lit true)))=>oN (a2 K x) fun v=>k v bF
  | .c (.one (.d (.lit false)))=>oN (a2 K y) fun v=>k v bF
  |_=>False
 | .binOp op T x y _=>match op,I1 aS T with
  | .eql,true=>EO aS T .eql (a2 K x) (a2 K y) k
  | .neq,true=>EO aS T .neq (a2 K x) (a2 K y) k
  |op,false=>match a2 K x with
   | .c (.one (.ptr _ _))=>False
   | .c (.one (.bJ _))=>False
   | .c (.one (.d (.bool a)))=>match EP aS T with
    |true=>EQ op a (a2 K y) k
    |false=>False
   | .c (.one (.d (.lit a)))=>match EP aS T with
    |true=>EQ op a (a2 K y) k
    |false=>False
   |_=>EM op (a2 K x) (a2 K y) k
  |_,_=>False
 | .unOp .not _ x=>match a2 K x with
  | .c (.one (.d (.lit true)))=>k (.c (.one (.d (.lit false)))) bF
  | .c (.one (.d (.lit false)))=>k (.c (.one (.d (.lit true)))) bF
  | .c (.one (.d (.bool b)))=>k (.c (.one (.d (.bool (!b))))) bF
  |_=>False
 | .extract x i=>match a2 K x with
  | .ci l=>match l[i]? with
   |some v=>k (.c v) bF
   |none=>False
  |_=>False
 | .nilCheck x=>match a2 K x with
  | .c (.one (.ptr c o))=>k (.c (.one (.ptr c o))) bF
  | .c (.one (.el u y o))=>k (.c (.one (.el u y o))) bF
  | .c (.one (.gc c s i o))=>k (.c (.one (.gc c s i o))) bF
  |_=>False
 | .fieldAddr T x f=>match I2 aS T f with
  |some (d,_)=>match a2 K x with
   | .c (.one (.ptr c o))=>k (.c (.one (.ptr c (o+d)))) bF
   | .c (.one (.el u y o))=>k (.c (.one (.el u y (o+d)))) bF
   | .c (.one (.gc c s i o))=>k (.c (.one (.gc c s i (o+d)))) bF
   |_=>False
  |none=>False
 | .load T x=>match aS.find T with
  |some ti=>match a2 K x with
   | .c (.one (.ptr c o))=>match ag B c with
    |some (.cells l)=>match ti.row with
     |true=>match Nat.ble (o+ti.size) l.length with
      |true=>pt ((l.drop o).take ti.size) fun l=>k (.c (.agg l)) ⟨[c],[],[]⟩
      |false=>False
     |false=>match l[o]? with
      |some s=>zh s fun s=>k (.c (.one s)) ⟨[c],[],[]⟩
      |none=>False
    |_=>False
   | .c (.one (.el u y o))=>match ti.row with
    |true=>match Nat.ble (o+ti.size) (aQ u) with
     |true=>pt (gq u y o ti.size) fun l=>k (.c (.agg l)) bF
     |false=>False
    |false=>match Nat.blt o (aQ u) with
     |true=>zg (fD u y o) fun x=>k (.c (.one (.d x))) bF
     |false=>False
   | .c (.one (.gc c s i o))=>match ag B c with
    |some (.row _ u xs)=>match Nat.beq s (aQ u) with
     |true=> ∃y,fE xs i=some y/\match ti.row with
      |true=>match Nat.ble (o+ti.size) (aQ u) with
       |true=>pt (gq u y o ti.size) fun l=>k (.c (.agg l)) ⟨[c],[],[]⟩
       |false=>False
      |false=>match Nat.blt o (aQ u) with
       |true=>zg (fD u y o) fun x=>k (.c (.one (.d x))) ⟨[c],[],[]⟩
       |false=>False
     |false=>False
    |_=>False
   |_=>False
  |none=>False
 | .store T x v=>match aS.find T with
  |some ti=>match a2 K x with
   | .c (.one (.ptr c o))=>match ag B c with
    |some (.cells l)=>match vQ (a2 K v) with
     |some cs=>match Nat.beq cs.length ti.size,Nat.ble (o+cs.length) l.length with
      |true,true=>pt (BE l o cs) fun l=>k .undef ⟨[c],[],[(c,some (.cells l))]⟩
      |_,_=>False
     |none=>False
    |_=>False
   | .c (.one (.gc c s i o))=>match ag B c with
    |some (.row e u xs)=>match Nat.beq (aQ u) 1,Nat.beq s 1,Nat.beq o 0,Nat.beq ti.size 1,a2 K v with
     |true,true,true,true,.c (.one pw)=>match nP u [pw] with
      |some (y,[],p)=>(uj p/\i < xs.length)/\k .undef ⟨[c],[],[(c,some (.row e u (xs.set i y)))]⟩
      |_=>False
     |_,_,_,_,_=>False
    |_=>False
   |_=>False
  |none=>False
 | .alloc T=>match aS.find T,o.dst with
  |some ti,some d=>g6 ids K B d=true/\k (.c (.one (.ptr d 0))) ⟨[],[d],[(d,some (.cells ti.zero))]⟩
  |_,_=>False
 | .box T x=>match aS.find T,o.dst,vQ (a2 K x) with
  |some ti,some d,some l=>match Nat.beq l.length ti.size with
   |true=>g6 ids K B d=true/\k (.c (.one (.ptr d 0))) ⟨[],[d],[(d,some (.cells l))]⟩
   |false=>False
  |_,_,_=>False
 | .build T bD=>match aS.find T with
  |some ti=>match ti.kd,vR K (fun f=>ti.mE[f]?) bD.toList ti.zero with
   | .st,some l=>pt l fun l=>k (.c (.agg l)) bF
   |_,_=>False
  |none=>False
 | .buildSlice T 0 bD=>match bD.toList with
  | []=>match elemOf aS T,o.dst with
   |some (e,te),some d=>match te.u with
    |some u=>g6 ids K B d=true/\k (.c (.one (.own d))) ⟨[],[d],[(d,some (.row e u []))]⟩
    |none=>False
   |_,_=>False
  |_=>False
 | .buildSlice T n bD=>match elemOf aS T with
  |some (_,te)=>match te.u with
   |some u=>match Nat.ble (n*te.size) 1000,vR K (fun i=>some (i*te.size,te.size)) bD.toList (EL n te.zero) with
    |true,some l=>match xl u n l with
     |some (xs,none)=>k (.c (.one (.d (.co u xs)))) bF
     |some (xs,some p)=>p/\k (.c (.one (.d (.co u xs)))) bF
     |none=>n=1/\ ∃y:Z u,(oK u y/\l=gq u y 0 (aQ u))/\k (.c (.one (.d (.co u [y])))) bF
    |_,_=>False
   |none=>False
  |none=>False
 | .indexAddr T x i=>match elemOf aS T,a2 K i with
  |some (_,te),.c (.one (.d (.int .i64 n)))=>match a2 K x with
   | .c (.one (.d (.co u xs)))=>match Nat.beq te.size (aQ u) with
    |true=>0<=n/\ ∃y,fE xs n.toNat=some y/\k (.c (.one (.el u y 0))) bF
    |false=>False
   | .c (.one (.own c))=>match ag B c with
    |some (.row _ u xs)=>match Nat.beq te.size (aQ u) with
     |true=>(0<=n/\n < xs.length)/\k (.c (.one (.gc c (aQ u) n.toNat 0))) ⟨[c],[],[]⟩
     |false=>False
    |_=>False
   |_=>False
  |_,_=>False
 | .index T x i=>match xp aS T,a2 K x,a2 K i with
  |true,.c (.one (.d (.str s))),.c (.one (.d (.int .i64 n)))=>0<=n/\ ∃y,fE s n.toNat=some y/\k (.c (.one (.d (.int .u8 (UInt8.toNat y:Int))))) bF
  |_,_,_=>False
 | .slice T x ia aF none=>match a2 K x with
  | .c (.one (.own c))=>match elemOf aS T,ag B c with
   |some (_,te),some (.row _ u xs)=>match zl xs.length (ia.map (a2 K)) (aF.map (a2 K)),Nat.beq te.size (aQ u) with
    |some (l,h,p),true=>p/\k (.c (.one (.os c (aQ u) l (h - l)))) ⟨[c],[],[]⟩
    |_,_=>False
   |_,_=>False
  | .c (.one (.ptr c o))=>match ia,aF,Nat.beq o 0 with
   |none,none,true=>Jd aS T c B k
   |_,_,_=>False
  |_=>I5 aS T (a2 K x) (ia.map (a2 K)) (aF.map (a2 K)) k
 | .sliceToArrayPointer T x=>Je aS T (a2 K x) k
 | .convert S T x=>I4 aS S T (a2 K x) B k
 | .lookup T x i ok=>I8 aS T (a2 K x) (a2 K i) ok B k
 | .mapUpdate T x i v=>Ja aS T (a2 K x) (a2 K i) (a2 K v) B k
 | .makeMap T none=>Jc aS T o.dst ids K B k
 | .makeFunc (.func f) fs cs=>match fs.toList,xo (cs.toList.map (a2 K)) with
  | [],some l=>k (.c (.one (.cY f l))) bF
  |_,_=>False
 | .makeSlice T x y=>match elemOf aS T,a2 K x,a2 K y,o.dst with
  |some (e,te),.c (.one (.d (.int .i64 n))),.c (.one (.d (.int .i64 m))),some d=>match q7 aS e with
   |true=>(n=m/\0<=n/\n<=4294967296)/\g6 ids K B d=true/\k (.c (.one (.own d))) ⟨[],[d],[(d,some (.row e .u8 (List.replicate n.toNat (0:UInt8))))]⟩
   |false=>False
  |_,_,_,_=>False
 | .call c=>match c.callee,c.args.toList with
  | .value (.func f),xs=>xm P f (xs.map (a2 K)) ids K B k
  | .value (.tmp t),xs=>match dI K t with
   | .c (.one (.cY f l))=>xm P f (xs.map (a2 K)++oO l) ids K B k
   | .c (.one (.d (.fn x)))=>xm P x.1 (xs.map (a2 K)++ul x.2) ids K B k
   |_=>False
  | .builtin .len,[x]=>match c.argTypes.toList with
   | [T]=>match I3 aS T B (a2 K x) with
    |some (n,jg)=>k (.c (.one (.d (.int .i64 (n:Int))))) ⟨jg,[],[]⟩
    |none=>False
   |_=>False
  | .builtin .delete,[x,y]=>match c.argTypes.toList with
   | [T,_]=>Jb aS T (a2 K x) (a2 K y) B k
   |_=>False
  | .builtin .min,[x,y]=>match a2 K x,a2 K y with
   | .c (.one (.d (.int .i64 a))),.c (.one (.d (.int .i64 b)))=>k (.c (.one (.d (.int .i64 (min a b))))) bF
   |_,_=>False
  | .builtin .max,[x,y]=>match a2 K x,a2 K y with
   | .c (.one (.d (.int .i64 a))),.c (.one (.d (.int .i64 b)))=>k (.c (.one (.d (.int .i64 (max a b))))) bF
   |_,_=>False
  | .builtin .copy,[x,y]=>match c.argTypes.toList with
   | [T,eJ]=>match Yz (a2 K y) with
    |true=>BG P ids o K B k
    |false=>Jf aS T (a2 K x) (a2 K y) B k
   |_=>False
  | .builtin .append,[x,y]=>match c.argTypes.toList with
   | [T,eJ]=>match Nat.beq T eJ with
    |true=>I6 aS T (a2 K x) (a2 K y) o.dst ids K B k
    |false=>I7 aS T eJ (a2 K x) (a2 K y) o.dst ids K B k
   |_=>False
  |_,_=>BG P ids o K B k
 |_=>BG P ids o K B k
def EU (K:aY) (B:az) (x:Operand):Bool:=match a2 K x with
 | .c (.one (.mp c))=>match ag B c with
  |some (.aG _)=>true
  |_=>false
 |_=>false
def EV:aP->Bool
 | .c (.one (.d (.aM _)))=>true
 | .c (.one (.bJ _))=>true
 |_=>false
def Pq (K:aY) (B:az) (x:Operand):Bool:=match a2 K x with
 | .c (.one (.ptr c _))=>match ag B c with
  |some (.val _ _)=>true
  |_=>false
 | .c (.one (.gc c _ _ _))=>match ag B c with
  |some (.val _ _)=>true
  |_=>false
 |_=>false
def YA (K:aY) (B:az) (x:Operand):Bool:=match a2 K x with
 | .c (.one (.gc c _ _ _))=>match ag B c with
  |some (.row _ u _)=> !Nat.beq (aQ u) 1
  |_=>false
 |_=>false
def Pr:aP->Bool
 | .c (.agg _)=>true
 | .c (.kh _ _)=>true
 |_=>false
def Jh (K:aY) (f:Nat):Bool:=match dI K (1000000+f) with
 | .undef=>true
 |_=>false
def YB (aS:dg) (o:Oper) (K:aY) (B:az):Bool:=match o.op with
 | .lookup _ x _ _=>EU K B x
 | .mapUpdate _ x _ _=>EU K B x
 | .indexAddr _ x _=>match a2 K x with
  | .c (.one (.ptr _ _))=>true
  |_=>false
 | .nilCheck x=>EV (a2 K x)
 | .fieldAddr _ x _=>EV (a2 K x)
 | .load _ x=>EV (a2 K x)||Pq K B x
 | .store _ x _=>EV (a2 K x)||Pq K B x||YA K B x
 | .binOp op _ x y _=>match op with
  | .and=>true
  |_=>match y with
   | .const .nilFunc=>true
   | .const .nilIface=>true
   |_=>Pr (a2 K x)||(match o.dst with
    |some d=>Jh K (2000000+d)
    |none=>false)
 | .index _ x _=>Pr (a2 K x)
 | .makeSlice T _ _=>match elemOf aS T with
  |some (e,_)=> !q7 aS e
  |none=>false
 | .build T _=>match aS.find T with
  |some ti=>match ti.kd with
   | .arr _ _=>true
   |_=>false
  |none=>false
 | .buildSlice _ _ _=>match o.dst with
  |some d=>Jh K (1000000+d)
  |none=>false
 | .call c=>match c.callee,c.args.toList with
  | .builtin .delete,x::_=>EU K B x
  | .builtin .len,x::_=>EU K B x
  | .value (.func f),_=>Jh K f
  | .value (.tmp t),_=>match dI K t with
   | .c (.one (.bJ _))=>true
   |_=>false
  |_,_=>false
 | .makeFunc _ fs _=>match fs.toList with
  | []=>false
  |_=>true
 |_=>false
def EW (P:Program) (aS:dg) (ids:aC4) (o:Oper) (K:aY) (B:az) (k:aP->fP->Prop):Prop:=match YB aS o K B with
 |true=>BG P ids o K B k
 |false=>Jg P aS ids o K B k
def BH (all:List Oper) (j:Nat):Option Nat:=match all[j]? with
 |some o=>o.dst
 |none=>none
def EX (i:Nat):List Oper->Bool
 | []=>false
 |o::l=>match o.guard with
  |some (j,_)=>match Nat.beq j i with
   |true=>true
   |false=>EX i l
  |none=>EX i l
def um (all:List Oper) (K:aY) (g:Option (Nat×Bool)):Option Bool:=match g with
 |none=>some true
 |some (j,want)=>match BH all j with
  |none=>none
  |some s=>match dI K s,want with
   | .c (.one (.d (.lit true))),true=>some true
   | .c (.one (.d (.lit true))),false=>some false
   | .c (.one (.d (.lit false))),true=>some false
   | .c (.one (.d (.lit false))),false=>some true
   | .undef,_=>some false
   |_,_=>none
structure k3 where
 i:Nat
 v:aP
 e:fP
noncomputable def EY (P:Program) (aS:dg) (ids:aC4) (all:List Oper) (o:Oper) (l:List Oper) (bq:Nat->aY->az->List k3->Prop) (i:Nat) (K:aY) (B:az) (gr:List k3):Prop:=
 match um all K o.guard with
 |none=>False
 |some false=>match o.dst with
  |some d=>bq (i+1) ((d,.undef)::K) B (⟨i,.undef,bF⟩::gr)
  |none=>bq (i+1) K B (⟨i,.undef,bF⟩::gr)
 |some true=>EW P aS ids o K B fun v e=>match o.dst with
  |none=>xk e.iH B fun B=>bq (i+1) K B (⟨i,.undef,e⟩::gr)
  |some d=>match EX i l,v with
   |true,.c (.one (.d (.bool b)))=>
    xk e.iH B fun B=>(b=true->bq (i+1) ((d,.c (.one (.d (.lit true))))::K) B (⟨i,.c (.one (.d (.lit true))),e⟩::gr))/\
    (b=false->bq (i+1) ((d,.c (.one (.d (.lit false))))::K) B (⟨i,.c (.one (.d (.lit false))),e⟩::gr))
   |_,v=>xk e.iH B fun B=>bq (i+1) ((d,v)::K) B (⟨i,v,e⟩::gr)
noncomputable def th (P:Program) (aS:dg) (ids:aC4) (all:List Oper) (i:Nat) (l:List Oper) (K:aY) (B:az) (gr:List k3) (k:aY->az->List k3->Prop):Prop:=
 List.rec (motive:=fun _=>Nat->aY->az->List k3->Prop) (fun _ K B gr=>k K B gr) (fun o l bq i K B gr=>EY P aS ids all o l bq i K B gr) l i K B gr
theorem Ps {P:Program} {aS:dg} {ids:aC4} {all:List Oper} {i:Nat} {o:Oper} {l:List Oper} {K:aY} {B:az} {gr:List k3} {k:aY->az->List k3->Prop}:
 th P aS ids all i (o::l) K B gr k=EY P aS ids all o l (fun i K B gr=>th P aS ids all i l K B gr k) i K B gr:=rfl
inductive oP where
 |g7
 |ex (id:Nat)
 |ret
def oP.to:oP->Exit
 | .g7=>.normal
 | .ex id=>.exit id
 | .ret=>.ret
abbrev oQ (r:Option Nat):Fence:={fn:=fun _=>True,depth:=none,alive:=false,round:=r}
abbrev fg.at (C:fg) (ds:aC4):fg:={C with ds:=ds}
def un (ids:aC4):Bool:=ids.contains 0
def bw (P:Program) (N:Nat) (ids:aC4) (c:Code) (K:aY) (B:az) (Q:oP->aY->az->Prop):Prop:=
 ∀r:Option Nat,(un ids=false->r=none)-> ∀(C:fg) (iK:Exit->Act->World->Prop),(∀e K' B' ds,(un ids=true->ds=C.ds)->Q e K' B'-> ∀a w,e2 N ids (C.at ds) K' B' a w->iK e.to a w)-> ∀a w,e2 N ids C K B a w->c.wpIn (oQ r) 0 P iK a w
def EZ (all:List Oper) (o:Oper):aC4:=(o.op.operands.toList.filterMap fun
 | .tmp t=>some t
 |_=>none)++(match o.guard with
 |some (j,_)=>(BH all j).toList
 |none=>[])
def qe (o:Oper):aC4:=(o.after.toList.filter fun e=>Region.binds .any e).map (·.on)
def zn:List Oper->List aC4->List aC4
 | [],acc=>acc
 |o::l,acc=>zn l (acc++[qe o++(qe o).flatMap fun d=>acc.getD d []])
def E0 (e:fP):aC4:=e.iH.map (·.1)
def zo (a b:aC4):Bool:=a.any fun x=>b.contains x
def zp (c:Nat):List (Nat×Option ba)->Bool
 | []=>false
 |(d,none)::l=>Nat.beq d c||zp c l
 |(d,some ch)::l=>Nat.beq d c||ch.has c||zp c l
def named (n:k3) (c:Nat):Bool:=n.v.has c||zp c n.e.iH
def apart (all:List Oper) (o p:Oper) (n m:k3):Bool:=
 !zo o.dst.toList (EZ all p++p.dst.toList)&& !zo p.dst.toList (EZ all o)&& !zo (E0 n.e) (m.e.jg++E0 m.e)&& !zo (E0 m.e) n.e.jg&& !n.e.bb.any (named m)&& !m.e.bb.any (named n)
def uo (all:List Oper) (an:List aC4):List (Oper×k3×Nat)->Bool
 | []=>true
 |(o,n,i)::l=>(l.all fun(p,m,j)=>(an.getD j []).contains i&& !m.e.bb.any (named n)||apart all o p n m)&&uo all an l
def vT (K:aY) (B:az) (c':List Oper) (gr:List k3):Bool:=
 let es:=gr.reverse
 (c'.zipIdx.all fun(o,i)=>(qe o).all fun d=>Nat.blt d i)&&(es.all fun n=>n.e.bb.all fun c=>ui c K&&kF c B)&&uo c' (zn c' []) ((c'.zip es).zipIdx.map fun((o,n),i)=>(o,n,i))
abbrev BI:=oP->aY->az->Prop
noncomputable def jB (P:Program) (aS:dg) (N:Nat) (ids:aC4) (stops:aC4) (c:Code):aY->az->BI->Prop:=
 Code.rec (motive:=fun _=>aY->az->BI->Prop)
  (fun K B Q=>Q .g7 K B)
  (fun id c' draw K B Q=>match stops.contains id with
   |true=>bw P N ids (.region id c' draw) K B Q
   |false=>match draw with
    |false=>th P aS ids c'.toList 0 c'.toList K B [] fun K B _=>Q .g7 K B
    |true=>th P aS ids c'.toList 0 c'.toList K B [] fun K' B' gr=>vT K B c'.toList gr=true/\Q .g7 K' B')
  (fun _ _ up BJ K B Q=>up K B fun e K B=>match e with
   | .g7=>BJ K B Q
   | .ex i=>Q (.ex i) K B
   | .ret=>Q .ret K B)
  (fun c _ _ Pt Pu K B Q=>match a2 K c with
   | .c (.one (.d (.lit true)))=>Pt K B Q
   | .c (.one (.d (.lit false)))=>Pu K B Q
   | .c (.one (.d (.bool b)))=>(b=true->Pt K B Q)/\(b=false->Pu K B Q)
   |_=>False)
  (fun i _ BJ K B Q=>BJ K B fun e K B=>match e with
   | .ex j=>match Nat.beq j i with
    |true=>Q .g7 K B
    |false=>Q (.ex j) K B
   | .g7=>Q .g7 K B
   | .ret=>Q .ret K B)
  (fun b _ K B Q=>bw P N ids (.loop b) K B Q)
  (fun f bD x b _ _ K B Q=>bw P N ids (.rangeFunc f bD x b) K B Q)
  (fun i K B Q=>Q (.ex i) K B)
  (fun _ BJ K B Q=>BJ K B Q)
  (fun _ K B Q=>Q .g7 K B)
  (fun _ _ _ _=>False)
  (fun K B Q=>Q .ret K B)
  (fun _ _ _ _=>False) c
section
variable {P:Program} {aS:dg} {N:Nat} {ids stops:aC4} {K:aY} {B:az} {Q:BI}
theorem YC {id:Nat} {c':Array Oper} {draw:Bool}:jB P aS N ids stops (.region id c' draw) K B Q=(match stops.contains id with
 |true=>bw P N ids (.region id c' draw) K B Q
 |false=>match draw with
  |false=>th P aS ids c'.toList 0 c'.toList K B [] fun K B _=>Q .g7 K B
  |true=>th P aS ids c'.toList 0 c'.toList K B [] fun K' B' gr=>vT K B c'.toList gr=true/\Q .g7 K' B'):=rfl
theorem YD {a b:Code}:jB P aS N ids stops (.seq a b) K B Q=jB P aS N ids stops a K B fun e K B=>match e with
 | .g7=>jB P aS N ids stops b K B Q
 | .ex i=>Q (.ex i) K B
 | .ret=>Q .ret K B:=rfl
theorem YE {c:Operand} {x y:Code}:jB P aS N ids stops (.cond c x y) K B Q=(match a2 K c with
 | .c (.one (.d (.lit true)))=>jB P aS N ids stops x K B Q
 | .c (.one (.d (.lit false)))=>jB P aS N ids stops y K B Q
 | .c (.one (.d (.bool b)))=>(b=true->jB P aS N ids stops x K B Q)/\(b=false->jB P aS N ids stops y K B Q)
 |_=>False):=rfl
theorem YF {i:Nat} {b:Code}:jB P aS N ids stops (.block i b) K B Q=jB P aS N ids stops b K B fun e K B=>match e with
 | .ex j=>match Nat.beq j i with
  |true=>Q .g7 K B
  |false=>Q (.ex j) K B
 | .g7=>Q .g7 K B
 | .ret=>Q .ret K B:=rfl
theorem YG {b:Code}:jB P aS N ids stops (.scope b) K B Q=jB P aS N ids stops b K B Q:=rfl
end
end Go.Proofs.YtkfbeijmgggkmaaGreat
