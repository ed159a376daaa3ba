/-
A part of the proof of this claim: lemmas, with no condition beyond what each says.
-/
import Derived.Deep.MidRow
import Derived.Test.YthnboghbhgapcaaGreatZa2
set_option linter.unusedVariables false
set_option linter.unusedSimpArgs false
set_option maxRecDepth 10000
namespace Go.Proofs.YthnboghbhgapcaaGreat
open Go.RowKit Go.Proofs
section
def s1:Option TypeDesc->Ol->Bool
 |some (.int k),.int dU=>l0 k dU
 |some .bool,.bool=>true
 |some .string,.str=>true
 |some (.pointer e),.ptr b5=>Nat.beq e b5
 |some (.slice e),.b7 b5=>Nat.beq e b5
 |some (.struct _),.st=>true
 |some (.array n e),.arr n' b5=>Nat.beq n n'&&Nat.beq e b5
 |some (.map k e),.mp dU b5=>Nat.beq k dU&&Nat.beq e b5
 |some (.func _ _ _),.other=>true
 |some (.interface _),.other=>true
 |_,_=>false
def IC:Value->bC->Bool
 | .int k n,.d (.int dU n')=>l0 k dU&&decide (n=n')
 | .bool b,.d (.lit dZ)=>b == dZ
 | .string s,.d (.str l)=>decide (s.data.toList=l)
 | .slice none 0 0,.dD=>true
 | .pointer none,.bI (.pointer none)=>true
 | .map none,.bI (.map none)=>true
 | .nilFunc,.bI .nilFunc=>true
 | .nilIface,.bI .nilIface=>true
 |_,_=>false
def s2:List Value->List bC->Bool
 | [],[]=>true
 |v::aD,s::l=>IC v s&&s2 aD l
 |_,_=>false
def qW (P:Program):List Field->List (Nat×Nat)->Bool
 | [],[]=>true
 |f::fs,(d,n)::l=>Nat.beq f.offset d&&(match P.info? f.type with
  |some i=>Nat.beq i.size n
  |none=>false)&& !Nat.beq n 0&&qW P fs l
 |_,_=>false
def Oy:Value->Bool->Bool
 | .agg _,false=>false
 |_,_=>true
def ID (P:Program) (T:Nat) (ti:cb):Bool:=match P.info? T,P.underlying T with
 |some i,some d=>Nat.beq i.size ti.size&&Nat.beq i.bytes ti.bytes&&(d.isRow == ti.row)&&s1 (some d) ti.kd&&(match i.zero with
  |some aB=>s2 aB.cells.toList ti.zero&&Oy aB d.isRow
  |none=>false)&&(match d with
  | .struct fs=>qW P fs.toList ti.mt
  |_=>true)&&Nat.ble ti.bytes 32768&&(match ti.u with
  |some u=>Nat.beq (aS u) ti.size
  |none=>true)&& !Nat.beq ti.size 0&&Nat.beq ti.zero.length ti.size
 |_,_=>false
def dd.all (p:Nat->cb->Bool):dd->Bool
 | .leaf=>true
 | .node l k x r=>l.all p&&p k x&&r.all p
theorem dd.IE {p:Nat->cb->Bool}: ∀(t:dd),t.all p=true-> ∀T ti,t.find T=some ti->p T ti=true
 | .leaf,_,T,ti,h=>by simp[dd.find] at h
 | .node l k x r,ha,T,ti,h=>by
  simp only[dd.all,vj] at ha;unfold dd.find at h
  split at h
  .exact dd.IE l ha.1.1 T ti h
  .split at h
   .rename_i e;have:=ap6 e;injection h with h
    subst this h;exact ha.1.2
   .exact dd.IE r ha.2 T ti h
def d6 (P:Program) (aU:dd):Prop:= ∀T ti,aU.find T=some ti->ID P T ti=true
theorem d6.of {P:Program} {aU:dd} (h:aU.all (ID P)=true):d6 P aU:=dd.IE aU h
theorem nH {i j:IntKind} (h:l0 i j=true):i=j:=by cases i <;>cases j <;>first |rfl |(simp[l0] at h)
structure l1 (P:Program) (T:Nat) (ti:cb) (i:TypeInfo) (d:TypeDesc):Prop where
 jF:P.info? T=some i
 nI:P.underlying T=some d
 size:i.size=ti.size
 bytes:i.bytes=ti.bytes
 row:d.isRow=ti.row
 kd:s1 (some d) ti.kd=true
 zero: ∃aB,i.zero=some aB/\s2 aB.cells.toList ti.zero=true
 mt: ∀fs,d= .struct fs->qW P fs.toList ti.mt=true
 Oz:ti.bytes<=32768
 u: ∀u,ti.u=some u->aS u=ti.size
 pos:ti.size≠0
 IF:ti.zero.length=ti.size
 OA: ∀aB,i.zero=some aB->d.isRow=false->aB.cells= #[aB]
theorem d6.at_ {P:Program} {aU:dd} (h:d6 P aU) {T:Nat} {ti:cb} (hf:aU.find T=some ti): ∃i d,l1 P T ti i d:=by
 have H:=h T ti hf;unfold ID at H
 split at H
 .rename_i i d aI J;simp only[vj,Bool.not_eq_true',beq_iff_eq] at H;obtain⟨⟨⟨⟨⟨⟨⟨⟨⟨E,G⟩,al⟩,aZ⟩,bK⟩,fD⟩,jG⟩,iS⟩,vv⟩,A7⟩:=H;refine⟨i,d,aI,J,ap6 E,ap6 G,al,aZ,?_,?_,Nat.le_of_ble_eq_true jG,?_,fun e=>by rw[e] at vv;simp at vv,ap6 A7,?_⟩
  .split at bK
   .rename_i aB aR;exact⟨aB,aR,(vj _ _▸bK).1⟩
   .cases bK
  .rintro fs rfl;exact fD
  .intro u a8;rw[a8] at iS;exact ap6 iS
  .intro aB aR aF;rw[aR] at bK;simp only[vj] at bK;have bK:=bK.2;rw[aF] at bK
   cases aB <;>first |rfl |(simp[Oy] at bK)
 .cases H
theorem l1.b7 {P:Program} {T:Nat} {ti:cb} {i:TypeInfo} {d:TypeDesc} (h:l1 P T ti i d) {e:Nat} (ab:ti.kd= .b7 e):P.underlying T=some (.slice e):=by
 have:=h.kd;rw[ab] at this;rw[h.nI]
 cases d <;>simp[s1] at this⊢
 exact this
theorem l1.str {P:Program} {T:Nat} {ti:cb} {i:TypeInfo} {d:TypeDesc} (h:l1 P T ti i d) (ab:ti.kd= .str):P.underlying T=some .string:=by
 have:=h.kd;rw[ab] at this;rw[h.nI]
 cases d <;>simp[s1] at this⊢
theorem l1.int {P:Program} {T:Nat} {ti:cb} {i:TypeInfo} {d:TypeDesc} (h:l1 P T ti i d) {k:IntKind} (ab:ti.kd= .int k):P.underlying T=some (.int k):=by
 have:=h.kd;rw[ab] at this;rw[h.nI]
 cases d <;>simp[s1] at this⊢
 exact nH this
theorem l1.ptr {P:Program} {T:Nat} {ti:cb} {i:TypeInfo} {d:TypeDesc} (h:l1 P T ti i d) {e:Nat} (ab:ti.kd= .ptr e):P.underlying T=some (.pointer e):=by
 have:=h.kd;rw[ab] at this;rw[h.nI]
 cases d <;>simp[s1] at this⊢
 exact this
theorem l1.st {P:Program} {T:Nat} {ti:cb} {i:TypeInfo} {d:TypeDesc} (h:l1 P T ti i d) (ab:ti.kd= .st): ∃fs,P.underlying T=some (.struct fs)/\d= .struct fs:=by
 have:=h.kd;rw[ab] at this;rw[h.nI]
 cases d <;>simp[s1] at this⊢
theorem OB {P:Program}: ∀(fs:List Field) (l:List (Nat×Nat)),qW P fs l=true-> ∀(f d n:Nat),l[f]? =some (d,n)-> ∃jH i,fs[f]? =some jH/\jH.offset=d/\P.info? jH.type=some i/\i.size=n/\n≠0
 | [],[],_,f,d,n,h=>by simp at h
 |g::fs,(a,b)::l,ai,0,d,n,h=>by
  simp only[qW,vj,Bool.not_eq_true'] at ai;simp only[aq5,ap4,at3] at h;obtain⟨rfl,rfl⟩:=h;obtain⟨⟨⟨E,G⟩,al⟩,_⟩:=ai
  split at G
  .rename_i i aI;exact⟨g,i,rfl,ap6 E,aI,ap6 G,fun e=>by subst e;simp at al⟩
  .cases G
 |g::fs,(a,b)::l,ai,f+1,d,n,h=>by
  simp only[qW,vj] at ai;simpa using OB fs l ai.2 f d n (by simpa using h)
 | [],_::_,ai,_,_,_,_=>by simp[qW] at ai
 |_::_,[],ai,_,_,_,_=>by simp[qW] at ai
section
variable {P:Program} {aU:dd} {N:Nat} {ids:List Nat} {o:Oper} {K:a1} {B:ay}
theorem bB.val {v:aQ} {ig:List Nat} (h: ∀(K':a1) (B':ay),(∀x,x∈o.op.operands->a7 K' x=a7 K x)->(∀c,c∈ig->ah B' c=ah B c)->
  ∀(C:e8) (ρ:Nat->bo) (F:Nat->Nat->Prop) (a:Act) (w:World),Mem ids C B' ρ F w->ee K' ρ (bZ C B' F w) a w-> ∃x,(execOp a.eval o).run P w= .ok (.value x) w/\ct ρ (bZ C B' F w) w v x):
  bB P N ids o K B v ⟨ig,[],[]⟩:=by
 rintro K' B' E G - C a w ⟨hn,J,ρ,F,ar,av⟩ bw fC Q di;obtain⟨x,hx,az⟩:=h K' B' E G C ρ F a w ar av;unfold Oper.wp;rw[hx,Oper.upon_value];exact di _ _ ⟨ke.trans hn,kf.trans J,ρ,F,ar,av.kg (fun e V=>by rw[hn];exact bw e V) az⟩
theorem bB.new {v:aQ} {ig:List Nat} (h: ∀(K':a1) (B':ay),(∀x,x∈o.op.operands->a7 K' x=a7 K x)->(∀c,c∈ig->ah B' c=ah B c)->
  ∀(C:e8) (ρ:Nat->bo) (F:Nat->Nat->Prop) (a:Act) (w:World),Mem ids C B' ρ F w->ee K' ρ (bZ C B' F w) a w-> ∃x w',(execOp a.eval o).run P w= .ok (.value x) w'/\Below w.heap.size w w'/\
   (∀I:Nat->Prop,cd (bZ C B' F w) w I w'->(∀b,w.heap.size<=b->b < w'.heap.size->I b)->ct ρ I w' v x)):
  bB P N ids o K B v ⟨ig,[],[]⟩:=by
 rintro K' B' E G - C a w ⟨hn,J,ρ,F,ar,av⟩ bw fC Q di;obtain⟨x,w',hx,O,az⟩:=h K' B' E G C ρ F a w ar av;obtain⟨bN,V⟩:=ar.below O;unfold Oper.wp;rw[hx,Oper.upon_value];refine di _ _ ⟨ke.trans hn,kf.trans J,ρ,F,bN,(av.mono V fun _ _ _=>rfl).kg (fun e V=>by rw[hn];exact bw e V) (az _ V fun b E G=>⟨G,?_,fun c ch H bj=>?_⟩)⟩
 .exact .inr (.inr (ar.fresh E))
 .have:=(ar.own c ch H b bj).1;omega
section
variable {K':a1} {ρ:Nat->bo} {I:Nat->Prop} {a:Act} {w:World} {x:Operand}
theorem ee.ev (av:ee K' ρ I a w) {s:aQ} (h:a7 K' x=s):ct ρ I w s (a.eval x):=h▸av.get x
theorem ee.int (av:ee K' ρ I a w) {k:IntKind} {n:Int} (h:a7 K' x= .c (.one (.d (.int k n)))):a.eval x= .int k n:=av.ev h
theorem ee.lit (av:ee K' ρ I a w) {b:Bool} (h:a7 K' x= .c (.one (.d (.lit b)))):a.eval x= .bool b:=av.ev h
theorem ee.bool (av:ee K' ρ I a w) {b:Bool} (h:a7 K' x= .c (.one (.d (.bool b)))):a.eval x= .bool b:=av.ev h
theorem ee.str (av:ee K' ρ I a w) {s:List UInt8} (h:a7 K' x= .c (.one (.d (.str s)))):a.eval x= .string ⟨s.toArray⟩:=av.ev h
theorem ee.ptr (av:ee K' ρ I a w) {c o:Nat} (h:a7 K' x= .c (.one (.ptr c o))):a.eval x= .pointer (some ⟨(ρ c).bk,o,none⟩):=av.ev h
theorem ee.f1 (av:ee K' ρ I a w) {c s i o:Nat} (h:a7 K' x= .c (.one (.f1 c s i o))):a.eval x= .pointer (some ⟨(ρ c).bk,i*s+o,none⟩):=av.ev h
theorem ee.os (av:ee K' ρ I a w) {c s o n:Nat} (h:a7 K' x= .c (.one (.os c s o n))):a.eval x= .slice (if(ρ c).cap=o then(ρ c).A else(ρ c).A.map (·.add (o*s))) n ((ρ c).cap - o):=av.ev h
theorem ee.bI (av:ee K' ρ I a w) {v:Value} (h:a7 K' x= .c (.one (.bI v))):a.eval x=v:=av.ev h
theorem ee.own (av:ee K' ρ I a w) {c:Nat} (h:a7 K' x= .c (.one (.own c))):a.eval x=(ρ c).er:=av.ev h
theorem ee.dD (av:ee K' ρ I a w) (h:a7 K' x= .c (.one .dD)):a.eval x= .slice none 0 0:=av.ev h
theorem ee.ck (av:ee K' ρ I a w) {u:bx} {xs:List (Z u)} (h:a7 K' x= .c (.one (.d (.ck u xs)))):cp I w (.b7 u) xs (fun _=>some (a.eval x)):=av.ev h
end
theorem w4 {k:IntKind} {n:Int} (h:tX k n):k.wrap n=n:=by
 cases k <;>simp only[tX] at h <;>simp[IntKind.wrap,IntKind.bits,IntKind.signed] <;>omega
theorem yW {x y:Operand} {op:BinOp} {T fE:TypeId}:x∈(Op.binOp op T x y fE).operands/\y∈(Op.binOp op T x y fE).operands:=by simp[Op.operands]
theorem toList_mk (l:List UInt8):(⟨l.toArray⟩:ByteArray).toList=l:=by rw[ByteArray.toList_eq]
theorem w5 (l:List UInt8):(⟨l.toArray⟩:ByteArray).size=l.length:=by simp[ByteArray.size]
theorem IG {op:BinOp} {T fE:TypeId} {x y:Operand} {a:Act} {w:World} {k:IntKind} {n m r:Int} (ai:o.op= .binOp op T x y fE) (E:a.eval x= .int k n) (G:a.eval y= .int k m)
  (h:(op= .add/\r=n+m)\/(op= .sub/\r=n - m)\/(op= .mul/\r=n*m)) (aF:tX k r):(execOp a.eval o).run P w= .ok (.value (.int k r)) w:=by
 simp only[execOp,ai,E,G];rcases h with⟨rfl,rfl⟩ |⟨rfl,rfl⟩ |⟨rfl,rfl⟩ <;>simp[eqGuard,go_sem,w4 aF,Op.intArith]
theorem OC {op:BinOp} {T fE:TypeId} {x y:Operand} {a:Act} {w:World} {k:IntKind} {n m r:Int} (ai:o.op= .binOp op T x y fE) (E:a.eval x= .int k n) (G:a.eval y= .int k m)
  (hn:0<=n) (aA:0 < m) (h:(op= .quo/\r=n/m)\/(op= .rem/\r=n % m)) (aF:tX k r):(execOp a.eval o).run P w= .ok (.value (.int k r)) w:=by
 have A8:m≠0:=by omega
 simp only[execOp,ai,E,G];rcases h with⟨rfl,rfl⟩ |⟨rfl,rfl⟩
 .have e:n.tdiv m=n/m:=Int.tdiv_eq_ediv_of_nonneg hn;simp[eqGuard,go_sem,Op.intDiv,A8,e,w4 aF]
 .have e:n.tmod m=n % m:=Int.tmod_eq_emod_of_nonneg hn;simp[eqGuard,go_sem,Op.intDiv,A8,e]
theorem yX {op:BinOp} {T fE:TypeId} {x y:Operand} {a:Act} {w:World} {k:IntKind} {n m:Int} {b:Bool} (ai:o.op= .binOp op T x y fE) (E:a.eval x= .int k n) (G:a.eval y= .int k m)
  (h:(op= .eql/\b=decide (n=m))\/(op= .neq/\b= !decide (n=m))\/(op= .lss/\b=decide (n < m))\/(op= .leq/\b=decide (n<=m))\/(op= .gtr/\b=decide (m < n))\/(op= .geq/\b=decide (m<=n))):
  (execOp a.eval o).run P w= .ok (.value (.bool b)) w:=by
 simp only[execOp,ai,E,G];rcases h with⟨rfl,rfl⟩ |⟨rfl,rfl⟩ |⟨rfl,rfl⟩ |⟨rfl,rfl⟩ |⟨rfl,rfl⟩ |⟨rfl,rfl⟩
 all_goals
  simp[eqGuard,go_sem,Op.intCmp]
 all_goals
  by_cases e:n=m <;>simp[e]
theorem IH {op:BinOp} {T fE:TypeId} {x y:Operand} {a:Act} {w:World} {k cM:IntKind} {n m r:Int} (ai:o.op= .binOp op T x y fE) (E:a.eval x= .int k n) (G:a.eval y= .int cM m)
  (hn:0<=n) (aA:0<=m) (O:m.toNat<=k.bits) (h:(op= .shl/\r=n*(2 ^m.toNat:Nat))\/(op= .shr/\r=n/(2 ^m.toNat:Nat))) (aF:op= .shl->tX k r):(execOp a.eval o).run P w= .ok (.value (.int k r)) w:=by
 have A8: ¬m < 0:=by omega
 have bG:min m.toNat k.bits=m.toNat:=by omega
 simp only[execOp,ai,E,G];rcases h with⟨rfl,rfl⟩ |⟨rfl,rfl⟩
 .have e:=w4 (aF rfl);simp only[Int.natCast_pow,Int.cast_ofNat_Int] at e⊢
  have ax:Op.shift .shl k n cM m=pure (.int k (n*2 ^m.toNat)):=by
   unfold Op.shift;rw[if_neg A8,bG];simp only;rw[e]
  simp only[eqGuard,binOp,ax];simp[go_sem]
 .have e:n.fdiv (2 ^m.toNat)=n/(2 ^m.toNat):=by rw[Int.fdiv_eq_ediv_of_nonneg];exact Int.pow_nonneg au6
  simp only[Int.natCast_pow,Int.cast_ofNat_Int]
  have ax:Op.shift .shr k n cM m=pure (.int k (n/2 ^m.toNat)):=by
   unfold Op.shift;rw[if_neg A8,bG];simp only;rw[e]
  simp only[eqGuard,binOp,ax];simp[go_sem]
theorem yY {op:BinOp} {T fE:TypeId} {x y:Operand} {a:Act} {w:World} {s t:List UInt8} {b:Bool} (ai:o.op= .binOp op T x y fE) (E:a.eval x= .string ⟨s.toArray⟩) (G:a.eval y= .string ⟨t.toArray⟩)
  (h:(op= .eql/\b=decide (s=t))\/(op= .neq/\b= !decide (s=t))\/(op= .lss/\b=Op.bytesLess s t)\/(op= .leq/\b=(Op.bytesLess s t||decide (s=t)))\/(op= .gtr/\b= !(Op.bytesLess s t||decide (s=t)))\/(op= .geq/\b= !Op.bytesLess s t)):
  (execOp a.eval o).run P w= .ok (.value (.bool b)) w:=by
 have e:(s == t)=decide (s=t):=by by_cases e:s=t <;>simp[e]
 simp only[execOp,ai,E,G];rcases h with⟨rfl,rfl⟩ |⟨rfl,rfl⟩ |⟨rfl,rfl⟩ |⟨rfl,rfl⟩ |⟨rfl,rfl⟩ |⟨rfl,rfl⟩ <;>simp[eqGuard,go_sem,Op.stringOp,toList_mk,e]
theorem XI (s t:List UInt8):(⟨s.toArray⟩:ByteArray)++⟨t.toArray⟩=⟨(s++t).toArray⟩:=by
 have:((⟨s.toArray⟩:ByteArray)++⟨t.toArray⟩).data=(s++t).toArray:=by
  simp[ByteArray.data_append]
 cases h:(⟨s.toArray⟩:ByteArray)++⟨t.toArray⟩
 rw[h] at this;simp only at this;rw[this]
theorem XJ {T fE:TypeId} {x y:Operand} {a:Act} {w:World} {s t:List UInt8} (ai:o.op= .binOp .add T x y fE) (E:a.eval x= .string ⟨s.toArray⟩) (G:a.eval y= .string ⟨t.toArray⟩)
  (h:s.length+t.length<=4294967296):(execOp a.eval o).run P w= .ok (.value (.string ⟨(s++t).toArray⟩)) w:=by
 simp only[execOp,ai,E,G]
 have hn: ¬(((s.length+t.length:Nat):Int) >IntKind.i64.max):=by
  have:IntKind.i64.max=9223372036854775807:=by decide
  omega
 simp only[eqGuard,binOp,Op.stringOp,w5,XI];rw[if_neg hn];simp[go_sem]
end
end
section
section
variable {P:Program} {aU:dd} {N:Nat} {ids:List Nat} {o:Oper} {K:a1} {B:ay} {k:aQ->fP->Prop}
theorem bB.one {x:Operand} {A9 v:aQ} (hx:a7 K x=A9) (aA:x∈o.op.operands)
  (h: ∀(K':a1) (ρ:Nat->bo) (I:Nat->Prop) (a:Act) (w:World),ee K' ρ I a w->a7 K' x=A9-> ∃r,(execOp a.eval o).run P w= .ok (.value r) w/\ct ρ I w v r):bB P N ids o K B v bG:=
 bB.val fun K' B' E G C ρ F a w ar av=>h K' ρ _ a w av ((E x aA).trans hx)
theorem bB.two {x y:Operand} {A9 OD v:aQ} (hx:a7 K x=A9) (aC:a7 K y=OD) (aA:x∈o.op.operands) (hn:y∈o.op.operands)
  (h: ∀(K':a1) (ρ:Nat->bo) (I:Nat->Prop) (a:Act) (w:World),ee K' ρ I a w->a7 K' x=A9->a7 K' y=OD-> ∃r,(execOp a.eval o).run P w= .ok (.value r) w/\ct ρ I w v r):bB P N ids o K B v bG:=
 bB.val fun K' B' E G C ρ F a w ar av=>h K' ρ _ a w av ((E x aA).trans hx) ((E y hn).trans aC)
theorem XK {a b:Int} (E:0<=a) (G:a<=9223372036854775807) (al:0<=b) (aZ:b<=9223372036854775807):
  IntKind.i64.wrap (((BitVec.ofInt 64 a ||| BitVec.ofInt 64 b).toNat:Nat):Int)=((a.toNat ||| b.toNat:Nat):Int):=by
 have aj:(BitVec.ofInt 64 a).toNat=a.toNat:=by rw[BitVec.toNat_ofInt];omega
 have ap:(BitVec.ofInt 64 b).toNat=b.toNat:=by rw[BitVec.toNat_ofInt];omega
 rw[BitVec.toNat_or,aj,ap];have h:a.toNat ||| b.toNat < 2 ^63:=Nat.or_lt_two_pow au5 au5;exact w4 (by simp only[tX];omega)
theorem OE {op:BinOp} {T fE:TypeId} {x y:Operand} (ai:o.op= .binOp op T x y fE)
  (ag:(∃e,P.underlying T=some (.pointer e))\/ ∀c d,a7 K x≠ .c (.one (.ptr c d))/\a7 K x≠ .c (.one (.bI (.pointer none))))
  (h:D9 op (a7 K x) (a7 K y) k): ∃v,k v bG/\bB P N ids o K B v bG:=by
 have m1:x∈o.op.operands:=by rw[ai];exact yW.1
 have m2:y∈o.op.operands:=by rw[ai];exact yW.2
 unfold D9 at h
 split at h
 .rename_i i a j b hx aC
  have two: ∀(v:aQ) (az:i=j-> ∀(K':a1) (ρ:Nat->bo) (I:Nat->Prop) (e':Act) (w:World),e'.eval x= .int i a->e'.eval y= .int i b-> ∃r,(execOp e'.eval o).run P w= .ok (.value r) w/\ct ρ I w v r),l0 i j=true->bB P N ids o K B v bG:=fun v az gH=>
   bB.two hx aC m1 m2 fun K' ρ I e' w av aj ap=>az (nH gH) K' ρ I e' w (av.int aj) (by rw[nH gH];exact av.int ap)
  have OF: ∀(v:aQ) (az: ∀(K':a1) (ρ:Nat->bo) (I:Nat->Prop) (e':Act) (w:World),e'.eval x= .int i a->e'.eval y= .int j b-> ∃r,(execOp e'.eval o).run P w= .ok (.value r) w/\ct ρ I w v r),bB P N ids o K B v bG:=fun v az=>
   bB.two hx aC m1 m2 fun K' ρ I e' w av aj ap=>az K' ρ I e' w (av.int aj) (av.int ap)
  split at h
  .rename_i gH;have h:=wY h;exact⟨_,h.2,two _ (fun _ K' ρ I e' w E G=>⟨_,IG ai E G (.inl ⟨rfl,rfl⟩) h.1,rfl⟩) gH⟩
  .rename_i gH;have h:=wY h;exact⟨_,h.2,two _ (fun _ K' ρ I e' w E G=>⟨_,IG ai E G (.inr (.inl ⟨rfl,rfl⟩)) h.1,rfl⟩) gH⟩
  .rename_i gH;have h:=wY h;exact⟨_,h.2,two _ (fun _ K' ρ I e' w E G=>⟨_,IG ai E G (.inr (.inr ⟨rfl,rfl⟩)) h.1,rfl⟩) gH⟩
  .rename_i gH;have h':=wY h.2;exact⟨_,h'.2,two _ (fun _ K' ρ I e' w E G=>⟨_,OC ai E G h.1.1 h.1.2 (.inl ⟨rfl,rfl⟩) h'.1,rfl⟩) gH⟩
  .rename_i gH;have h':=wY h.2;exact⟨_,h'.2,two _ (fun _ K' ρ I e' w E G=>⟨_,OC ai E G h.1.1 h.1.2 (.inr ⟨rfl,rfl⟩) h'.1,rfl⟩) gH⟩
  .split at h
   .rename_i aI;have:=nH aI;subst this;have h':=wY h.2;exact⟨_,h'.2,OF _ fun K' ρ I e' w E G=>⟨_,IH ai E G h.1.1 h.1.2.1 (by simp[IntKind.bits];have:=h.1.2.2;omega) (.inl ⟨rfl,rfl⟩) (fun _=>h'.1),rfl⟩⟩
   .exact h.elim
  .split at h
   .rename_i aI;have:=nH aI;subst this;exact⟨_,h.2,OF _ fun K' ρ I e' w E G=>⟨_,IH ai E G h.1.1 h.1.2.1 (by simp[IntKind.bits];have:=h.1.2.2;omega) (.inr ⟨rfl,rfl⟩) (fun e=>by cases e),rfl⟩⟩
   .exact h.elim
  .rename_i gH
   split at h
   .rename_i aI;have:=nH aI;subst this;refine⟨_,h.2,two _ (fun aa K' ρ I e' w E G=>⟨_,?_,rfl⟩) gH⟩;have e:=XK h.1.1 h.1.2.1 h.1.2.2.1 h.1.2.2.2
    have ax:Op.intBits .or .i64 a b=pure (.int .i64 ((a.toNat ||| b.toNat:Nat):Int)):=by
     exact congrArg (fun aB:Int=>(pure (Value.int .i64 aB):Sem Value)) e
    simp only[execOp,ai,E,G,eqGuard,binOp,ax];simp[go_sem]
   .exact h.elim
  .rename_i gH;exact⟨_,h,two _ (fun _ K' ρ I e' w E G=>⟨_,yX ai E G (.inl ⟨rfl,rfl⟩),rfl⟩) gH⟩
  .rename_i gH;exact⟨_,h,two _ (fun _ K' ρ I e' w E G=>⟨_,yX ai E G (.inr (.inl ⟨rfl,rfl⟩)),rfl⟩) gH⟩
  .rename_i gH;exact⟨_,h,two _ (fun _ K' ρ I e' w E G=>⟨_,yX ai E G (.inr (.inr (.inl ⟨rfl,rfl⟩))),rfl⟩) gH⟩
  .rename_i gH;exact⟨_,h,two _ (fun _ K' ρ I e' w E G=>⟨_,yX ai E G (.inr (.inr (.inr (.inl ⟨rfl,rfl⟩)))),rfl⟩) gH⟩
  .rename_i gH;exact⟨_,h,two _ (fun _ K' ρ I e' w E G=>⟨_,yX ai E G (.inr (.inr (.inr (.inr (.inl ⟨rfl,rfl⟩))))),rfl⟩) gH⟩
  .rename_i gH;exact⟨_,h,two _ (fun _ K' ρ I e' w E G=>⟨_,yX ai E G (.inr (.inr (.inr (.inr (.inr ⟨rfl,rfl⟩))))),rfl⟩) gH⟩
  .exact h.elim
 .rename_i s t hx aC
  have two: ∀(v:aQ) (az: ∀(K':a1) (ρ:Nat->bo) (I:Nat->Prop) (e':Act) (w:World),e'.eval x= .string ⟨s.toArray⟩->e'.eval y= .string ⟨t.toArray⟩-> ∃r,(execOp e'.eval o).run P w= .ok (.value r) w/\ct ρ I w v r),bB P N ids o K B v bG:=fun v az=>
   bB.two hx aC m1 m2 fun K' ρ I e' w av aj ap=>az K' ρ I e' w (av.str aj) (av.str ap)
  split at h
  .exact⟨_,h.2,two _ fun K' ρ I e' w E G=>⟨_,XJ ai E G h.1,rfl⟩⟩
  .exact⟨_,h,two _ fun K' ρ I e' w E G=>⟨_,yY ai E G (.inl ⟨rfl,rfl⟩),rfl⟩⟩
  .exact⟨_,h,two _ fun K' ρ I e' w E G=>⟨_,yY ai E G (.inr (.inl ⟨rfl,rfl⟩)),rfl⟩⟩
  .exact⟨_,h,two _ fun K' ρ I e' w E G=>⟨_,yY ai E G (.inr (.inr (.inl ⟨rfl,rfl⟩))),rfl⟩⟩
  .exact⟨_,h,two _ fun K' ρ I e' w E G=>⟨_,yY ai E G (.inr (.inr (.inr (.inl ⟨rfl,rfl⟩)))),rfl⟩⟩
  .exact⟨_,h,two _ fun K' ρ I e' w E G=>⟨_,yY ai E G (.inr (.inr (.inr (.inr (.inl ⟨rfl,rfl⟩))))),rfl⟩⟩
  .exact⟨_,h,two _ fun K' ρ I e' w E G=>⟨_,yY ai E G (.inr (.inr (.inr (.inr (.inr ⟨rfl,rfl⟩))))),rfl⟩⟩
  .exact h.elim
 .rename_i c d hx aC;obtain⟨e,a8⟩:=ag.resolve_right fun h=>(h c d).1 hx
  have q: ∀(p:Addr) (w:World),(Op.equalIn (9999+1) T (.pointer (some p)) (.pointer none)).run P w= .ok false w:=fun p w=>by
   unfold Op.equalIn;simp[run_underlying a8]
  split at h
  .refine⟨_,h,bB.two hx aC m1 m2 fun K' ρ I e' w av aj ap=>⟨_,?_,rfl⟩⟩;simp only[execOp,ai,av.ptr aj,av.bI ap];simp[eqGuard,binOp,Op.equal,Op.maxDepth,q]
  .refine⟨_,h,bB.two hx aC m1 m2 fun K' ρ I e' w av aj ap=>⟨_,?_,rfl⟩⟩;simp only[execOp,ai,av.ptr aj,av.bI ap];simp[eqGuard,binOp,Op.equal,Op.maxDepth,q]
  .exact h.elim
 .rename_i hx aC;obtain⟨e,a8⟩:=ag.resolve_right fun h=>(h 0 0).2 hx
  have q: ∀(w:World),(Op.equalIn (9999+1) T (.pointer none) (.pointer none)).run P w= .ok true w:=fun w=>by
   unfold Op.equalIn;simp[run_underlying a8]
  split at h
  .refine⟨_,h,bB.two hx aC m1 m2 fun K' ρ I e' w av aj ap=>⟨_,?_,rfl⟩⟩;simp only[execOp,ai,av.bI aj,av.bI ap];simp[eqGuard,binOp,Op.equal,Op.maxDepth,q]
  .refine⟨_,h,bB.two hx aC m1 m2 fun K' ρ I e' w av aj ap=>⟨_,?_,rfl⟩⟩;simp only[execOp,ai,av.bI aj,av.bI ap];simp[eqGuard,binOp,Op.equal,Op.maxDepth,q]
  .exact h.elim
 .exact h.elim
theorem OG {op:BinOp} {T fE:TypeId} {x y:Operand} (ai:o.op= .binOp op T x y fE) (bn: ∀T,yQ aU T=true-> ∃e i,P.underlying T=some (.pointer e)/\P.info? e=some i/\i.size≠0)
  (ag: ∃e,P.underlying T=some (.pointer e)) (h:Ea aU T op (a7 K x) (a7 K y) k): ∃v,k v bG/\bB P N ids o K B v bG:=by
 have m1:x∈o.op.operands:=by rw[ai];exact yW.1
 have m2:y∈o.op.operands:=by rw[ai];exact yW.2
 unfold Ea at h
 split at h
 .rename_i p hx;obtain⟨e,a8⟩:=ag
  have key: ∀(b:Bool) (r:Option Nat),(∀(ρ:Nat->bo) (I:Nat->Prop) (w:World) (v:Value),ct ρ I w (a7 K y) v->v= .pointer (nC r))->(b=true->p=r/\(r=none\/yQ aU T=true))->(b=false->(p=none/\r≠none)\/(p≠none/\r=none))->(op= .eql->bB P N ids o K B (.c (.one (.d (.lit b)))) bG)/\(op= .neq->bB P N ids o K B (.c (.one (.d (.lit !b)))) bG):=by
   intro b r aC E G
   have q: ∀(w:World),(Op.equalIn (9999+1) T (.pointer (nC p)) (.pointer (nC r))).run P w= .ok b w:=by
    intro w;unfold Op.equalIn
    cases b with
    |true=>
     obtain⟨rfl,al⟩:=E rfl
     cases p with
     |none=>simp[run_underlying a8,nC]
     |some p=>
      rcases al with al |al
      .cases al
      .obtain⟨b5,i,cf,cM,eb⟩:=bn T al;rw[a8] at cf;injection cf with cf
       injection cf with cf
       subst cf;simp[run_underlying a8,nC,sizeOf,typeInfo,cM,eb,sameAddr]
    |false=>
     rcases G rfl with⟨rfl,al⟩ |⟨al,rfl⟩
     .cases r with
      |none=>exact absurd rfl al
      |some r=>simp[run_underlying a8,nC]
     .cases p with
      |none=>exact absurd rfl al
      |some p=>simp[run_underlying a8,nC]
   refine⟨fun aj=>?_,fun aj=>?_⟩
   .subst aj;refine bB.val fun K' B' g1 g2 C ρ F a w ar av=>⟨.bool b,?_,rfl⟩
    have aj:a.eval x= .pointer (nC p):=av.ev ((g1 x m1).trans hx);have ap:a.eval y= .pointer (nC r):=aC _ _ _ _ (av.ev (g1 y m2));simp only[execOp,ai,aj,ap];simp[eqGuard,binOp,Op.equal,Op.maxDepth,q]
   .subst aj;refine bB.val fun K' B' g1 g2 C ρ F a w ar av=>⟨.bool !b,?_,rfl⟩
    have aj:a.eval x= .pointer (nC p):=av.ev ((g1 x m1).trans hx);have ap:a.eval y= .pointer (nC r):=aC _ _ _ _ (av.ev (g1 y m2));simp only[execOp,ai,aj,ap];simp[eqGuard,binOp,Op.equal,Op.maxDepth,q]
  have two: ∀(f:Bool->Prop),D' aU T p (a7 K y) f-> ∃b,f b/\(op= .eql->bB P N ids o K B (.c (.one (.d (.lit b)))) bG)/\(op= .neq->bB P N ids o K B (.c (.one (.d (.lit !b)))) bG):=by
   intro f h;unfold D' at h
   split at h
   .rename_i aC;have d4: ∀(ρ:Nat->bo) (I:Nat->Prop) (w:World) (v:Value),ct ρ I w (a7 K y) v->v= .pointer (nC none):=fun ρ I w v az=>by rw[aC] at az;exact az
    cases ag:p with
    |some b=>exact⟨_,h.1 b ag,by
      have:=key false none d4 (fun e=>by cases e) (fun _=>.inr ⟨by simp[ag],rfl⟩);exact this⟩
    |none=>exact⟨_,h.2 ag,key true none d4 (fun _=>⟨ag,.inl rfl⟩) (fun e=>by cases e)⟩
   .rename_i r aC;have d4: ∀(ρ:Nat->bo) (I:Nat->Prop) (w:World) (v:Value),ct ρ I w (a7 K y) v->v= .pointer (nC r):=fun ρ I w v az=>by rw[aC] at az;exact az
    split at h
    .have aY:yQ aU T=true:=by assumption
     obtain⟨rfl,h⟩:=h;exact⟨_,h,key _ _ d4 (fun _=>⟨rfl,.inr aY⟩) (fun e=>by cases e)⟩
    .exact h.elim
   .exact h.elim
  split at h
  .obtain⟨b,E,G,_⟩:=two _ h;exact⟨_,E,G rfl⟩
  .obtain⟨b,E,_,G⟩:=two _ h;exact⟨_,E,G rfl⟩
  .exact h.elim
 .exact OE ai (.inl ag) h
theorem OH {op:BinOp} {T fE:TypeId} {x y:Operand} (ai:o.op= .binOp op T x y fE) (a8:P.underlying T=some .bool) {a:Bool} (hx:a7 K x= .c (.one (.d (.bool a)))\/a7 K x= .c (.one (.d (.lit a))))
  (h:Ec op a (a7 K y) k): ∃v,k v bG/\bB P N ids o K B v bG:=by
 have m1:x∈o.op.operands:=by rw[ai];exact yW.1
 have m2:y∈o.op.operands:=by rw[ai];exact yW.2
 have q: ∀(a b:Bool) (w:World),(Op.equalIn (9999+1) T (.bool a) (.bool b)).run P w= .ok (a == b) w:=fun a b w=>by
  unfold Op.equalIn;simp[run_underlying a8]
 have key: ∀(b:Bool) (r:Bool),(a7 K y= .c (.one (.d (.bool b)))\/a7 K y= .c (.one (.d (.lit b))))->(op= .eql/\r=(a == b))\/(op= .neq/\r= !(a == b))->bB P N ids o K B (.c (.one (.d (.bool r)))) bG:=fun b r aC aF=>
  bB.val fun K' B' E G C ρ F e' w ar av=>by
   have ex:e'.eval x= .bool a:=by
    have:=av.get x;rw[E x m1] at this;rcases hx with hx |hx <;>(rw[hx] at this;exact this)
   have II:e'.eval y= .bool b:=by
    have:=av.get y;rw[E y m2] at this;rcases aC with aC |aC <;>(rw[aC] at this;exact this)
   refine⟨.bool r,?_,rfl⟩;rcases aF with⟨rfl,rfl⟩ |⟨rfl,rfl⟩ <;>(simp only[execOp,ai,ex,II];simp[eqGuard,binOp,Op.equal,Op.maxDepth,q])
 unfold Ec at h
 split at h
 .exact⟨_,h,key _ _ (.inl ‹_›) (.inl ⟨rfl,rfl⟩)⟩
 .exact⟨_,h,key _ _ (.inr ‹_›) (.inl ⟨rfl,rfl⟩)⟩
 .exact⟨_,h,key _ _ (.inl ‹_›) (.inr ⟨rfl,rfl⟩)⟩
 .exact⟨_,h,key _ _ (.inr ‹_›) (.inr ⟨rfl,rfl⟩)⟩
 .exact h.elim
end
end
section
section
variable {ρ:Nat->bo} {I:Nat->Prop} {w:World}
theorem b'.length: ∀(l:List bC) (aD:List Value),b' ρ I w l aD->aD.length=l.length
 | [],_,h=>by rw[show _=[] from h];rfl
 |s::l,_,⟨v,r,e,E,G⟩=>by rw[e,as4,as4,b'.length l r G]
theorem b'.get: ∀(l:List bC) (aD:List Value),b' ρ I w l aD-> ∀(i:Nat) (s:bC),l[i]? =some s-> ∃v,aD[i]? =some v/\dS ρ I w s v
 | [],_,h,i,s,ax=>by simp at ax
 |t::l,_,⟨v,r,e,E,G⟩,0,s,ax=>by
  simp only[aq5,ap4] at ax;subst ax e;exact⟨v,rfl,E⟩
 |t::l,_,⟨v,r,e,E,G⟩,i+1,s,ax=>by
  subst e;simpa using b'.get l r G i s (by simpa using ax)
theorem b'.t7: ∀(l m:List bC) (aD us:List Value),b' ρ I w l aD->b' ρ I w m us->b' ρ I w (l++m) (aD++us)
 | [],m,_,us,h,h'=>by rw[show _=[] from h];exact h'
 |s::l,m,_,us,⟨v,r,e,E,G⟩,h'=>⟨v,r++us,by rw[e];rfl,E,b'.t7 l m r us G h'⟩
theorem b'.Eo: ∀(n:Nat) (l:List bC) (aD:List Value),b' ρ I w l aD->b' ρ I w (l.take n) (aD.take n)
 |0,_,_,_=>rfl
 |n+1,[],_,h=>by rw[show _=[] from h];rfl
 |n+1,s::l,_,⟨v,r,e,E,G⟩=>⟨v,r.take n,by rw[e];rfl,E,b'.Eo n l r G⟩
theorem b'.qX: ∀(n:Nat) (l:List bC) (aD:List Value),b' ρ I w l aD->b' ρ I w (l.drop n) (aD.drop n)
 |0,_,_,h=>h
 |n+1,[],_,h=>by rw[show _=[] from h];rfl
 |n+1,s::l,_,⟨v,r,e,E,G⟩=>by rw[e];exact b'.qX n l r G
theorem b'.splice {l cs:List bC} {aD us:List Value} {o:Nat} (h:b' ρ I w l aD) (h':b' ρ I w cs us):b' ρ I w (A2 l o cs) (aD.take o++us++aD.drop (o+us.length)):=by
 unfold A2;rw[b'.length cs us h'];exact b'.t7 _ _ _ _ (b'.t7 _ _ _ _ (b'.Eo _ _ _ h) h') (b'.qX _ _ _ h)
theorem ok_one {s:bC} {v:Value} (h:s.ok=true) (az:dS ρ I w s v):v.oneCell'=true:=by
 cases s with
 |d x=>
  cases x with
  |ck u xs=>obtain⟨A,cap,e,_⟩:=az;injection e with e;rw[e];rfl
  |dC y=>rw[show v=qP y from az];rcases y with _ |⟨b,n,c⟩ <;>rfl
  |fn y=>rw[show v=mo y from az];rfl
  |_=>rw[show v=_ from az];rfl
 |ptr c o=>rw[show v=_ from az];rfl
 |own c=>rw[show v=_ from az];rfl
 |el u x o=>obtain⟨b,p,e,_⟩:=az;rw[e];rfl
 |f1 c s i o=>rw[show v=_ from az];rfl
 |os c s o n=>rw[show v=_ from az];rfl
 |mp c=>rw[show v=_ from az];rfl
 |cT f l=>obtain⟨aD,e,_⟩:=az;rw[e];rfl
 |dD=>rw[show v=_ from az];rfl
 |bI u=>
  rw[show v=u from az]
  cases u <;>first |rfl |(simp[bC.ok] at h)
 |any=>simp[bC.ok] at h
theorem OI: ∀{l:List bC} {aD:List Value},D3 l=true->b' ρ I w l aD-> ∀u∈aD,u.oneCell'=true
 | [],_,_,az,u,a8=>by rw[show _=[] from az] at a8;cases a8
 |s::l,_,h,⟨v,r,e,E,G⟩,u,a8=>by
  simp only[D3,vj] at h;subst e;rcases ap3.1 a8 with rfl |a8
  .exact ok_one h.1 E
  .exact OI h.2 G u a8
theorem IJ {pi:aQ} {l:List bC} {v:Value} (h:vr pi=some l) (az:ct ρ I w pi v): ∃aD,v.cells=List.toArray aD/\b' ρ I w l aD/\ ∀u∈aD,u.oneCell'=true:=by
 unfold vr at h
 split at h
 .split at h
  .rename_i s ax;injection h with h
   subst h;have E:=ok_one ax az;refine⟨[v],?_,⟨v,[],rfl,az,rfl⟩,fun u a8=>by simp at a8;rw[a8];exact E⟩
   cases v <;>first |rfl |(simp[Value.oneCell'] at E)
  .cases h
 .split at h
  .rename_i l' aq;injection h with h
   subst h;obtain⟨aD,e,G⟩:=az;exact⟨aD,by rw[e];rfl,G,OI aq G⟩
  .cases h
 .cases h
end
def c5 {α:Type} (f:Nat->α) (c:Nat) (x:α):Nat->α:=fun d=>if d=c then x else f d
theorem c6 {α:Type} (f:Nat->α) (c:Nat) (x:α):c5 f c x c=x:=if_pos rfl
theorem de {α:Type} (f:Nat->α) {c d:Nat} (x:α) (h:d≠c):c5 f c x d=f d:=if_neg h
theorem OJ {c:Nat}: ∀{K:a1},tV c K=true-> ∀s,(dA K s).has c=false
 | [],_,s=>rfl
 |(t,v)::K,h,s=>by
  simp only[tV,vj,Bool.not_eq_true'] at h;rw[kc]
  split
  .exact h.1
  .exact OJ h.2 s
theorem t8 {c:Nat}: ∀{B:ay},kh c B=true->ah B c=none/\ ∀d ch,ah B d=some ch->ch.has c=false
 | [],_=>⟨rfl,fun d ch h=>by cases h⟩
 |(t,v)::B,h=>by
  simp only[kh,vj,Bool.not_eq_true'] at h;obtain⟨E,G⟩:=t8 h.2;have ba:t≠c:=fun e=>by subst e;simp at h
  refine⟨by rw[ca,if_neg ba];exact E,fun d ch J=>?_⟩;rw[ca] at J
  split at J
  .injection J with J;subst J;exact h.1.2
  .exact G d ch J
theorem kK {ids:List Nat} {K:a1} {B:ay} {c:Nat} (h:gW ids K B c=true):(∀s,(dA K s).has c=false)/\ah B c=none/\(∀d ch,ah B d=some ch->ch.has c=false)/\c∉ids:=by
 simp only[gW,vj,Bool.not_eq_true'] at h;obtain⟨G,al⟩:=t8 h.1.2;exact⟨OJ h.1.1,G,al,by simpa using h.2⟩
section
variable {P:Program} {aU:dd} {N:Nat} {ids:List Nat} {o:Oper} {K:a1} {B:ay} {C:e8} {ρ:Nat->bo} {F:Nat->Nat->Prop} {w w':World}
theorem Mem.make (h:Mem ids C B ρ F w) {c:Nat} {ch:bd} (hf:gW ids K B c=true) (O:Below w.heap.size w w') (pl:bo) (b8:Nat->Prop) (kL: ∀b,b8 b->w.heap.size<=b/\b < w'.heap.size)
  (cV: ∀I,cd (bZ C B F w) w I w'->(∀b,I b->b < w'.heap.size/\ ¬b8 b)->Holds (c5 ρ c pl) I b8 w' pl ch):
  Mem ids C ((c,ch)::B) (c5 ρ c pl) (c5 F c b8) w'/\cd (bZ C B F w) w (bZ C ((c,ch)::B) (c5 F c b8) w') w':=by
 obtain⟨h1,jn,f3,pj⟩:=kK hf;refine h.step (fun d=>d=c) (fun d=>d=c) (cJ.mn O) ?_ (fun d J=>de _ _ J) (fun d J=>de _ _ J) (fun d J e=>pj (e▸J)) (fun _ h=>h) ?_ ?_ ?_ ?_
 .intro d ch' J ba;rw[ca,if_neg (fun e=>ba e.symm)] at J;exact J
 .rintro d ch' J _ e V rfl;rw[f3 d ch' J] at V
  cases V
 .rintro d ch' J rfl V;rw[ca,if_pos rfl] at J;injection J with J
  subst J;rw[c6,c6];exact cV _ V fun b dm=>⟨dm.1,fun a6=>dm.2.2 d ch (by rw[ca,if_pos rfl]) (by rw[c6];exact a6)⟩
 .rintro d ch' J rfl b a6;rw[c6] at a6;exact⟨(kL b a6).2,.inr (kL b a6).1⟩
 .rintro d cZ iT oC b _ _ rfl rfl ba;exact absurd rfl ba
theorem Mem.hN (h:Mem ids C B ρ F w) {c:Nat} {cw ch:bd} (H:ah B c=some cw) (cz:cJ (F c) w w')
  (cV: ∀I,cd (bZ C B F w) w I w'->Holds ρ I (F c) w' (ρ c) ch):
  Mem ids C ((c,ch)::B) ρ F w'/\cd (bZ C B F w) w (bZ C ((c,ch)::B) F w') w':=by
 refine h.step (fun d=>d=c) (fun _=>False) (cz.mono fun b _ O=>⟨c,cw,H,rfl,O⟩) ?_ (fun _ _=>rfl) (fun _ _=>rfl) (fun _ _ h=>h) (fun _ h=>h.elim) (fun _ _ _ _ _ _ h=>h) ?_ ?_ ?_
 .intro d ch' J ba;rw[ca,if_neg (fun e=>ba e.symm)] at J;exact J
 .rintro d ch' J rfl V;rw[ca,if_pos rfl] at J;injection J with J
  subst J;exact cV _ V
 .rintro d ch' J rfl b O;exact⟨Nat.lt_of_lt_of_le (h.own d cw H b O).1 cz.size,.inl ⟨d,cw,H,rfl,O⟩⟩
 .rintro d cZ iT oC b _ _ rfl rfl ba;exact absurd rfl ba
theorem bB.make {c:Nat} {ch:bd} {v:aQ} {ig:List Nat} (az: ∀d,v.has d=true->d=c)
  (h: ∀(K':a1) (B':ay),(∀x,x∈o.op.operands->a7 K' x=a7 K x)->(∀c,c∈ig->ah B' c=ah B c)-> ∀(C:e8) (ρ:Nat->bo) (F:Nat->Nat->Prop) (a:Act) (w:World),Mem ids C B' ρ F w->ee K' ρ (bZ C B' F w) a w->
   (∀s,(dA K' s).has c=false)-> ∃x w' pl b8,(execOp a.eval o).run P w= .ok (.value x) w'/\Below w.heap.size w w'/\(∀b,b8 b->w.heap.size<=b/\b < w'.heap.size)/\
    (∀I,cd (bZ C B' F w) w I w'->(∀b,I b->b < w'.heap.size/\ ¬b8 b)->Holds (c5 ρ c pl) I b8 w' pl ch/\ct (c5 ρ c pl) I w' v x)):
  bB P N ids o K B v ⟨ig,[c],[(c,some ch)]⟩:=by
 rintro K' B' E G al C a w ⟨hn,J,ρ,F,ar,av⟩ bw fC Q di;have hf:=al c au7;have cz:=kK hf;obtain⟨x,w',pl,b8,hx,O,kL,cV⟩:=h K' B' E G C ρ F a w ar av cz.1;obtain⟨bN,V⟩:=ar.make hf O pl b8 kL fun I aj ap=>(cV I aj ap).1
 unfold Oper.wp;rw[hx,Oper.upon_value];refine di _ _ ⟨ke.trans hn,kf.trans J,c5 ρ c pl,c5 F c b8,bN,(av.mono V fun s d J=>de _ _ (fun e=>by subst e;rw[cz.1 s] at J;cases J)).kg (fun e V=>by rw[hn];exact bw e V) ?_⟩;exact(cV _ V fun b dm=>⟨dm.1,fun a6=>dm.2.2 c ch (by rw[ca,if_pos rfl]) (by rw[c6];exact a6)⟩).2
theorem bB.hN {c:Nat} {cw ch:bd} (H:ah B c=some cw)
  (h: ∀(K':a1) (B':ay),(∀x,x∈o.op.operands->a7 K' x=a7 K x)-> ∀(C:e8) (ρ:Nat->bo) (F:Nat->Nat->Prop) (a:Act) (w:World),Mem ids C B' ρ F w->ee K' ρ (bZ C B' F w) a w->ah B' c=some cw-> ∃w',(execOp a.eval o).run P w= .ok .skip w'/\cJ (F c) w w'/\
   (∀I,cd (bZ C B' F w) w I w'->Holds ρ I (F c) w' (ρ c) ch)):
  bB P N ids o K B .undef ⟨[c],[],[(c,some ch)]⟩:=by
 rintro K' B' E G - C a w ⟨hn,J,ρ,F,ar,av⟩ bw fC Q di;have cF:ah B' c=some cw:=(G c au7).trans H;obtain⟨w',hx,cz,cV⟩:=h K' B' E C ρ F a w ar av cF;obtain⟨bN,V⟩:=ar.hN cF cz cV;unfold Oper.wp;rw[hx,Oper.upon_skip];exact di _ _ ⟨ke.trans hn,kf.trans J,ρ,F,bN,(av.mono V fun _ _ _=>rfl).kg (fun e V=>by rw[hn];exact bw e V) rfl⟩
theorem OK {T:TypeId} {p:Addr} {v:Value} {d:TypeDesc} (a8:P.underlying T=some d) (J:d.isRow=false) (H:w.cell? p=some v):(loadVar T p).run P w= .ok v w:=by
 cases d <;>first |(simp[TypeDesc.isRow] at J;done) |simp[loadVar,isAgg,run_underlying a8,go_sem,H]
theorem Ep {ev:Operand->Value} {T:TypeId} {x:Operand} {p:Addr} {v:Value} {d:TypeDesc} (ai:o.op= .load T x) (E:ev x= .pointer (some p)) (a8:P.underlying T=some d) (J:d.isRow=false) (H:w.cell? p=some v):(execOp ev o).run P w= .ok (.value v) w:=by
 unfold execOp;simp only[ai,E,Instr.loadAt,Instr.sureAddr,Sem.run_bind,Sem.run_pure,Result.andThen_ok,OK a8 J H]
theorem Er {ev:Operand->Value} {T:TypeId} {x:Operand} {b p:Nat} {cs:List Value} {d:TypeDesc} {i:TypeInfo} (ai:o.op= .load T x) (E:ev x= .pointer (some ⟨b,p,none⟩)) (a8:P.underlying T=some d) (J:d.isRow=true) (aI:P.info? T=some i) (aq:i.size=cs.length)
  (H: ∀(j:Nat) (u:Value),cs[j]? =some u->w.cell? ⟨b,p+j,none⟩=some u):(execOp ev o).run P w= .ok (.value (.agg cs.toArray)) w:=by
 unfold execOp;simp only[ai,E,Instr.loadAt,Instr.sureAddr,Sem.run_bind,Sem.run_pure,Result.andThen_ok,run_loadVar_mid w b p T cs d H a8 J (by rw[aI,at2,aq])]
theorem oD {b:Nat} {aD:List Value} {T:Nat} (h:w.heap[b]? =some (.cells (List.toArray aD) T (0,0))) {j:Nat} {v:Value} (aa:aD[j]? =some v):w.cell? ⟨b,j,none⟩=some v:=by
 simp[World.cell?,h,aa]
theorem Ba {ev:Operand->Value} {T:TypeId} {x y:Operand} {b p:Nat} {aD us:List Value} {bx:Nat} {i:TypeInfo} (ai:o.op= .store T x y) (E:ev x= .pointer (some ⟨b,p,none⟩)) (aC:(ev y).cells=List.toArray us) (aI:P.info? T=some i) (aq:i.size=us.length)
  (O:w.heap[b]? =some (.cells (List.toArray aD) bx (0,0))) (k1:p+us.length<=aD.length) (rV: ∀u∈us,u.oneCell'=true):
  (execOp ev o).run P w= .ok .skip (w.setRow b (aD.take p++us++aD.drop (p+us.length)).toArray):=by
 have ax:=run_storeCells_at (P:=P) b p bx us 0 (List.toArray aD) w O (by simpa using k1) rV;simp only[Nat.add_zero,List.toList_toArray] at ax;have aR:(ev y).cells.size=i.size:=by rw[aC,aq];simp
 unfold execOp;simp[ai,E,Instr.storeAt,Instr.sureAddr,storeVar,sizeOf,typeInfo,aI,aC,aq,ax]
end
end
section
section
variable {P:Program} {aU:dd} {N:Nat} {ids:List Nat} {o:Oper} {K:a1} {B:ay} {k:aQ->fP->Prop}
def cC (P:Program) (N:Nat) (ids:List Nat) (o:Oper) (K:a1) (B:ay) (k:aQ->fP->Prop):Prop:= ∃v e,k v e/\bB P N ids o K B v e/\ ∀c,c∈e.bf->gW ids K B c=true
theorem cC.of {v:aQ} {ig:List Nat} {hy:List (Nat×Option bd)} (h:k v ⟨ig,[],hy⟩) (aE:bB P N ids o K B v ⟨ig,[],hy⟩):cC P N ids o K B k:=⟨_,_,h,aE,fun c H=>by cases H⟩
theorem cC.bf {v:aQ} {ig:List Nat} {d:Nat} {hy:List (Nat×Option bd)} (h:k v ⟨ig,[d],hy⟩) (hf:gW ids K B d=true) (aE:bB P N ids o K B v ⟨ig,[d],hy⟩):cC P N ids o K B k:=⟨_,_,h,aE,fun c H=>by simp at H;rw[H];exact hf⟩
theorem OL {x:Operand} (ai:o.op= .move x\/o.op= .assign x) (h:oz (a7 K x) fun v=>k v bG):cC P N ids o K B k:=by
 rw[rT] at h;refine cC.of h <| bB.one rfl (by rcases ai with ai |ai <;>rw[ai] <;>simp[Op.operands]) fun K' ρ I a w av e=>⟨_,?_,av.ev e⟩
 rcases ai with ai |ai <;>simp[execOp,ai]
theorem XL {c x y:Operand} (ai:o.op= .pick c x y) (h:match a7 K c with
  | .c (.one (.d (.lit true)))=>oz (a7 K x) fun v=>k v bG
  | .c (.one (.d (.lit false)))=>oz (a7 K y) fun v=>k v bG
  |_=>False):cC P N ids o K B k:=by
 have m1:c∈o.op.operands:=by rw[ai];simp[Op.operands]
 have m2:x∈o.op.operands:=by rw[ai];simp[Op.operands]
 have m3:y∈o.op.operands:=by rw[ai];simp[Op.operands]
 split at h
 .rename_i H;rw[rT] at h;exact cC.of h <| bB.two H rfl m1 m2 fun K' ρ I a w av aj ap=>⟨_,by simp[execOp,ai,av.lit aj,asBool],av.ev ap⟩
 .rename_i H;rw[rT] at h;exact cC.of h <| bB.two H rfl m1 m3 fun K' ρ I a w av aj ap=>⟨_,by simp[execOp,ai,av.lit aj,asBool],av.ev ap⟩
 .exact h.elim
theorem XM {T:TypeId} {x:Operand} (ai:o.op= .unOp .not T x) (h:match a7 K x with
  | .c (.one (.d (.lit true)))=>k (.c (.one (.d (.lit false)))) bG
  | .c (.one (.d (.lit false)))=>k (.c (.one (.d (.lit true)))) bG
  | .c (.one (.d (.bool b)))=>k (.c (.one (.d (.bool (!b))))) bG
  |_=>False):cC P N ids o K B k:=by
 have m1:x∈o.op.operands:=by rw[ai];simp[Op.operands]
 split at h
 .rename_i H;exact cC.of h <| bB.one H m1 fun K' ρ I a w av aj=>⟨_,by simp[execOp,ai,av.lit aj,Op.unary],rfl⟩
 .rename_i H;exact cC.of h <| bB.one H m1 fun K' ρ I a w av aj=>⟨_,by simp[execOp,ai,av.lit aj,Op.unary],rfl⟩
 .rename_i b H;exact cC.of h <| bB.one H m1 fun K' ρ I a w av aj=>⟨_,by simp[execOp,ai,av.bool aj,Op.unary],rfl⟩
 .exact h.elim
theorem iJ.get {ρ:Nat->bo} {I:Nat->Prop} {w:World}: ∀(l:List dI) (aD:List Value),iJ ρ I w l aD-> ∀(i:Nat) (s:dI),l[i]? =some s-> ∃v,aD[i]? =some v/\gy ρ I w s v
 | [],_,h,i,s,ax=>by simp at ax
 |t::l,_,⟨v,r,e,E,G⟩,0,s,ax=>by
  simp only[aq5,ap4] at ax;subst ax e;exact⟨v,rfl,E⟩
 |t::l,_,⟨v,r,e,E,G⟩,i+1,s,ax=>by
  subst e;simpa using iJ.get l r G i s (by simpa using ax)
theorem XN {x:Operand} {i:Nat} (ai:o.op= .extract x i) (h:match a7 K x with
  | .ce l=>match l[i]? with
   |some v=>k (.c v) bG
   |none=>False
  |_=>False):cC P N ids o K B k:=by
 have m1:x∈o.op.operands:=by rw[ai];simp[Op.operands]
 split at h
 .rename_i l aq
  split at h
  .rename_i v az;refine cC.of h <| bB.one aq m1 fun K' ρ I a w av aj=>?_
   obtain⟨aD,e,G⟩:=av.ev aj;obtain⟨u,a8,al⟩:=iJ.get l aD G i v az;exact⟨u,by simp[execOp,ai,e,Instr.extract,a8],al⟩
  .exact h.elim
 .exact h.elim
theorem XO {x:Operand} (ai:o.op= .nilCheck x) (h:match a7 K x with
  | .c (.one (.ptr c o))=>k (.c (.one (.ptr c o))) bG
  | .c (.one (.el u y o))=>k (.c (.one (.el u y o))) bG
  | .c (.one (.f1 c s i o))=>k (.c (.one (.f1 c s i o))) bG
  |_=>False):cC P N ids o K B k:=by
 have m1:x∈o.op.operands:=by rw[ai];simp[Op.operands]
 split at h
 .rename_i c p H;exact cC.of h <| bB.one H m1 fun K' ρ I a w av aj=>⟨_,by simp[execOp,ai,av.ptr aj],rfl⟩
 .rename_i u y p H;refine cC.of h <| bB.one H m1 fun K' ρ I a w av aj=>⟨a.eval x,?_,av.ev aj⟩
  obtain⟨b,q,e,_⟩:=av.ev aj;simp[execOp,ai,e]
 .rename_i c s i p H;exact cC.of h <| bB.one H m1 fun K' ρ I a w av aj=>⟨_,by simp[execOp,ai,av.f1 aj],rfl⟩
 .exact h.elim
theorem Es {ev:Operand->Value} {T:TypeId} {x:Operand} {f g off d:Nat} {w:World} {fs:Array Field} {jH:Field} {i:TypeInfo} (E:ev x= .pointer (some ⟨g,off,none⟩)) (ai:o.op= .fieldAddr T x f)
  (cc:P.underlying T=some (.struct fs)) (t':fs[f]? =some jH) (J:jH.offset=d) (aI:P.info? jH.type=some i) (cQ:i.size≠0):(execOp ev o).run P w= .ok (.value (.pointer (some ⟨g,off+d,none⟩))) w:=by
 subst J;simp[execOp,ai,E,Instr.fieldAt,run_underlying cc,t',Instr.sureAddr,fieldPlace,sizeOf,typeInfo,aI,cQ,pX]
theorem XP (bn:d6 P aU) {T:TypeId} {x:Operand} {f:Nat} (ai:o.op= .fieldAddr T x f) (h:match Im aU T f with
  |some (d,_)=>match a7 K x with
   | .c (.one (.ptr c o))=>k (.c (.one (.ptr c (o+d)))) bG
   | .c (.one (.el u y o))=>k (.c (.one (.el u y (o+d)))) bG
   | .c (.one (.f1 c s i o))=>k (.c (.one (.f1 c s i (o+d)))) bG
   |_=>False
  |none=>False):cC P N ids o K B k:=by
 have m1:x∈o.op.operands:=by rw[ai];simp[Op.operands]
 split at h
 .rename_i d n J
  have⟨fs,jH,i,cc,t',IK,aI,aR⟩: ∃fs jH i,P.underlying T=some (.struct fs)/\fs[f]? =some jH/\jH.offset=d/\P.info? jH.type=some i/\i.size≠0:=by
   unfold Im at J
   split at J
   .rename_i ti gz
    split at J
    .rename_i ab;obtain⟨i,s3,bu⟩:=bn.at_ gz;obtain⟨fs,a8,rfl⟩:=bu.st ab;obtain⟨jH,OM,E,G,al,aZ,bK⟩:=OB _ _ (bu.mt fs rfl) f d n J;exact⟨fs,jH,OM,a8,by simpa using E,G,al,by rw[aZ];exact bK⟩
    .cases J
   .cases J
  split at h
  .rename_i c p H;exact cC.of h <| bB.one H m1 fun K' ρ I a w av aj=>⟨_,Es (av.ptr aj) ai cc t' IK aI aR,rfl⟩
  .rename_i u y p H;refine cC.of h <| bB.one H m1 fun K' ρ I a w av aj=>?_
   obtain⟨b,q,e,G⟩:=av.ev aj;exact⟨_,Es e ai cc t' IK aI aR,b,q,by rw[Nat.add_assoc],G⟩
  .rename_i c s j p H;exact cC.of h <| bB.one H m1 fun K' ρ I a w av aj=>⟨_,Es (av.f1 aj) ai cc t' IK aI aR,by simp only[ct,gy,dS];rw[Nat.add_assoc]⟩
  .exact h.elim
 .exact h.elim
theorem Et {ρ:Nat->bo} {I:Nat->Prop} {w:World} {u:bx} {y:Z u} {c:Nat->Option Value} (aC:cp I w u y c): ∀(n p:Nat),p+n<=aS u-> ∃aD,b' ρ I w (gh u y p n) aD/\ ∀(j:Nat) (v:Value),aD[j]? =some v->c (p+j)=some v
 |0,p,_=>⟨[],rfl,fun j v h=>by simp at h⟩
 |n+1,p,h=>by
  obtain⟨v,E,G⟩:=cp.cell u y c p aC au5;obtain⟨aD,al,aZ⟩:=Et aC n (p+1) au5;refine⟨v::aD,⟨v,aD,rfl,G,al⟩,fun j cU aa=>?_⟩
  match j with
  |0=>simp only[aq5,ap4] at aa;subst aa;exact E
  |j+1=>rw[show p+(j+1)=p+1+j by omega];exact aZ j cU (by simpa using aa)
theorem s4 (u:bx) (y:Z u): ∀(n p:Nat),(gh u y p n).length=n
 |0,_=>rfl
 |n+1,p=>by simp[gh,s4 u y n]
theorem yZ (u:bx) (y:Z u): ∀(n p i:Nat),i < n->(gh u y p n)[i]? =some (.d (fA u y (p+i)))
 |0,p,i,h=>by omega
 |n+1,p,0,h=>rfl
 |n+1,p,i+1,h=>by
  have:=yZ u y n (p+1) i au5;rw[show p+1+i=p+(i+1) by omega] at this;simpa[gh] using this
theorem Bb {ρ:Nat->bo} {I:Nat->Prop} {w:World} {u:bx} {y:Z u} (hw:ow u y) {aD:List Value} (h:b' ρ I w (gh u y 0 (aS u)) aD):cp I w u y (fun j=>aD[j]?):=
 cp.mk u y _ hw fun j aa=>by
  have a6:=yZ u y (aS u) 0 j aa;rw[Nat.zero_add] at a6;obtain⟨v,aj,ap⟩:=b'.get _ _ h j _ a6;exact⟨v,aj,ap⟩
theorem Eu {T:TypeId} {x:Operand} (ai:o.op= .load T x) {ti:cb} {i:TypeInfo} {d:TypeDesc} (bu:l1 P T ti i d) {u:bx} {y:Z u} {p:Nat} {a:Act} {w:World} {I:Nat->Prop} {ρ:Nat->bo} {b q:Nat}
  (V:a.eval x= .pointer (some ⟨b,q+p,none⟩)) (aC:cp I w u y (fun j=>w.cell? ⟨b,q+j,none⟩)):
  (ti.row=true->p+ti.size<=aS u-> ∃r,(execOp a.eval o).run P w= .ok (.value r) w/\ct ρ I w (.c (.agg (gh u y p ti.size))) r)/\
  (ti.row=false->p < aS u-> ∃r,(execOp a.eval o).run P w= .ok (.value r) w/\ct ρ I w (.c (.one (.d (fA u y p)))) r):=by
 constructor
 .intro aF gY;obtain⟨aD,E,G⟩:=Et (ρ:=ρ) aC ti.size p gY;refine⟨_,Er (cs:=aD) ai V bu.nI (bu.row.trans aF) bu.jF (by rw[b'.length _ _ E,s4];exact bu.size) (fun j v aa=>?_),aD,rfl,E⟩;rw[Nat.add_assoc];exact G j v aa
 .intro aF bw;obtain⟨v,E,G⟩:=cp.cell u y _ p aC bw;exact⟨v,Ep ai V bu.nI (bu.row.trans aF) E,G⟩
theorem XQ {ρ:Nat->bo} {I F:Nat->Prop} {w:World} {p:bo} {e:TypeId} {u:bx} {xs:List (Z u)} (h:Holds ρ I F w p (.row e u xs)) {i:Nat} {y:Z u} (aC:fB xs i=some y):
  cp I w u y (fun j=>w.cell? ⟨p.bk,i*aS u+j,none⟩):=by
 obtain⟨E,G,cs,al,aZ⟩:=h;refine cp.mono (cd.refl _ _) u y _ _ (fun j v aa=>?_) (aZ i y aC);have aa:cs[i*aS u+j]? =some v:=aa;have hx:=AY aC;have Bc:=al;obtain⟨aq,al⟩:=al;rcases al with⟨_,aw⟩ |⟨g,cap,c8,az,_,a6,_,_,_,cr⟩
 .omega
 .have O:p.er.ownBlock=some g:=by rw[az];rfl
  rw[<-G g O];have:=Bc.cells O (i*aS u+j) v aa
  rwa[pX,Nat.zero_add] at this
theorem XR (bn:d6 P aU) {T:TypeId} {x:Operand} (ai:o.op= .load T x) (h:match aU.find T with
  |some ti=>match a7 K x with
   | .c (.one (.ptr c o))=>match ah B c with
    |some (.cells l)=>match ti.row with
     |true=>match Nat.ble (o+ti.size) l.length with
      |true=>ph ((l.drop o).take ti.size) fun l=>k (.c (.agg l)) ⟨[c],[],[]⟩
      |false=>False
     |false=>match l[o]? with
      |some s=>yN s fun s=>k (.c (.one s)) ⟨[c],[],[]⟩
      |none=>False
    |_=>False
   | .c (.one (.el u y o))=>match ti.row with
    |true=>match Nat.ble (o+ti.size) (aS u) with
     |true=>ph (gh u y o ti.size) fun l=>k (.c (.agg l)) bG
     |false=>False
    |false=>match Nat.blt o (aS u) with
     |true=>yM (fA u y o) fun x=>k (.c (.one (.d x))) bG
     |false=>False
   | .c (.one (.f1 c s i o))=>match ah B c with
    |some (.row _ u xs)=>match Nat.beq s (aS u) with
     |true=> ∃y,fB xs i=some y/\match ti.row with
      |true=>match Nat.ble (o+ti.size) (aS u) with
       |true=>ph (gh u y o ti.size) fun l=>k (.c (.agg l)) ⟨[c],[],[]⟩
       |false=>False
      |false=>match Nat.blt o (aS u) with
       |true=>yM (fA u y o) fun x=>k (.c (.one (.d x))) ⟨[c],[],[]⟩
       |false=>False
     |false=>False
    |_=>False
   |_=>False
  |none=>False):cC P N ids o K B k:=by
 have m1:x∈o.op.operands:=by rw[ai];simp[Op.operands]
 split at h
 .rename_i ti gz;obtain⟨i,d,bu⟩:=bn.at_ gz
  split at h
  .rename_i c p H
   split at h
   .rename_i l aq
    have key: ∀(K':a1) (B':ay),(∀x,x∈o.op.operands->a7 K' x=a7 K x)->(∀d,d∈ [c]->ah B' d=ah B d)-> ∀(C:e8) (ρ:Nat->bo) (F:Nat->Nat->Prop) (a:Act) (w:World),Mem ids C B' ρ F w->ee K' ρ (bZ C B' F w) a w->
      a.eval x= .pointer (some ⟨(ρ c).bk,p,none⟩)/\ ∃aD T,w.heap[(ρ c).bk]? =some (.cells (List.toArray aD) T (0,0))/\b' ρ (bZ C B' F w) w l aD:=fun K' B' E G C ρ F a w ar av=>by
     have bl:=ar.holds c _ ((G c au7).trans aq);exact⟨av.ptr ((E x m1).trans H),bl.2⟩
    split at h
    .rename_i aF
     split at h
     .rename_i gY;have gY:=Nat.le_of_ble_eq_true gY;rw[yO] at h;refine cC.of h <| bB.val fun K' B' E G C ρ F a w ar av=>?_
      obtain⟨aj,aD,eT,O,J⟩:=key K' B' E G C ρ F a w ar av;have kM:=b'.Eo ti.size _ _ (b'.qX p _ _ J);refine⟨_,Er (cs:=(aD.drop p).take ti.size) ai aj bu.nI (bu.row.trans aF) bu.jF ?_ (fun j u aa=>?_),_,rfl,kM⟩
      .rw[b'.length _ _ kM,ap8,at1,bu.size];omega
      .rw[List.getElem?_take] at aa
       split at aa
       .rw[List.getElem?_drop] at aa;exact oD O aa
       .cases aa
     .exact h.elim
    .rename_i aF
     split at h
     .rename_i s ax;rw[H6] at h;refine cC.of h <| bB.val fun K' B' E G C ρ F a w ar av=>?_
      obtain⟨aj,aD,eT,O,J⟩:=key K' B' E G C ρ F a w ar av;obtain⟨v,az,kM⟩:=b'.get _ _ J p s ax;exact⟨v,Ep ai aj bu.nI (bu.row.trans aF) (oD O az),kM⟩
     .exact h.elim
   .exact h.elim
  .rename_i u y p H
   split at h
   .rename_i aF
    split at h
    .rename_i gY;rw[yO] at h;refine cC.of h <| bB.one H m1 fun K' ρ I a w av aj=>?_
     obtain⟨b,q,e,_,aC⟩:=av.ev aj;exact(Eu ai bu e aC).1 aF (Nat.le_of_ble_eq_true gY)
    .exact h.elim
   .rename_i aF
    split at h
    .rename_i bw;rw[H5] at h;refine cC.of h <| bB.one H m1 fun K' ρ I a w av aj=>?_
     obtain⟨b,q,e,_,aC⟩:=av.ev aj;exact(Eu ai bu e aC).2 aF (by simpa[Nat.blt_eq] using bw)
    .exact h.elim
  .rename_i c s j p H
   split at h
   .rename_i e u xs aq
    split at h
    .rename_i ax;have ax:=ap6 ax;subst ax;obtain⟨y,aC,h⟩:=h
     have key: ∀(K':a1) (B':ay),(∀x,x∈o.op.operands->a7 K' x=a7 K x)->(∀d,d∈ [c]->ah B' d=ah B d)-> ∀(C:e8) (ρ:Nat->bo) (F:Nat->Nat->Prop) (a:Act) (w:World),Mem ids C B' ρ F w->ee K' ρ (bZ C B' F w) a w->
       a.eval x= .pointer (some ⟨(ρ c).bk,j*aS u+p,none⟩)/\cp (bZ C B' F w) w u y (fun i=>w.cell? ⟨(ρ c).bk,j*aS u+i,none⟩):=fun K' B' E G C ρ F a w ar av=>
      ⟨av.f1 ((E x m1).trans H),XQ (ar.holds c _ ((G c au7).trans aq)) aC⟩
     split at h
     .rename_i aF
      split at h
      .rename_i gY;rw[yO] at h;refine cC.of h <| bB.val fun K' B' E G C ρ F a w ar av=>?_
       obtain⟨aj,ap⟩:=key K' B' E G C ρ F a w ar av;exact(Eu ai bu aj ap).1 aF (Nat.le_of_ble_eq_true gY)
      .exact h.elim
     .rename_i aF
      split at h
      .rename_i bw;rw[H5] at h;refine cC.of h <| bB.val fun K' B' E G C ρ F a w ar av=>?_
       obtain⟨aj,ap⟩:=key K' B' E G C ρ F a w ar av;exact(Eu ai bu aj ap).2 aF (by simpa[Nat.blt_eq] using bw)
      .exact h.elim
    .exact h.elim
   .exact h.elim
  .exact h.elim
 .exact h.elim
end
end
end Go.Proofs.YthnboghbhgapcaaGreat
