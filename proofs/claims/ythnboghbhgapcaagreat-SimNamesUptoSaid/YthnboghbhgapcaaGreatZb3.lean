/-
A part of the proof of this claim: lemmas, with no condition beyond what each says.
-/
import Derived.Deep.MidRow
import Derived.Test.YthnboghbhgapcaaGreatZb2
set_option linter.unusedVariables false
set_option linter.unusedSimpArgs false
set_option maxRecDepth 10000
set_option maxHeartbeats 4000000
namespace Go.Proofs.YthnboghbhgapcaaGreat
open Go.RowKit Go.Proofs
section
def s7:Option TypeDesc->Ou->Bool
 |some (.int k),.int dV=>l2 k dV
 |some .bool,.bool=>true
 |some .string,.str=>true
 |some (.pointer e),.ptr b5=>Nat.beq e b5
 |some (.slice e),.b7 b5=>Nat.beq e b5
 |some (.struct _),.st=>true
 |some (.array n e),.arr n' b5=>Nat.beq n n'&&Nat.beq e b5
 |some (.map k e),.mp dV b5=>Nat.beq k dV&&Nat.beq e b5
 |some (.func _ _ _),.other=>true
 |some (.interface _),.other=>true
 |_,_=>false
def IL:Value->bC->Bool
 | .int k n,.d (.int dV n')=>l2 k dV&&decide (n=n')
 | .bool b,.d (.lit dZ)=>b == dZ
 | .string s,.d (.str l)=>decide (s.data.toList=l)
 | .slice none 0 0,.dD=>true
 | .pointer none,.bJ (.pointer none)=>true
 | .map none,.bJ (.map none)=>true
 | .nilFunc,.bJ .nilFunc=>true
 | .nilIface,.bJ .nilIface=>true
 |_,_=>false
def s8:List Value->List bC->Bool
 | [],[]=>true
 |v::aE,s::l=>IL v s&&s8 aE l
 |_,_=>false
def qY (P:Program):List Field->List (Nat×Nat)->Bool
 | [],[]=>true
 |f::fs,(d,n)::l=>Nat.beq f.offset d&&(match P.info? f.type with
  |some i=>Nat.beq i.size n
  |none=>false)&& !Nat.beq n 0&&qY P fs l
 |_,_=>false
def OE:Value->Bool->Bool
 | .agg _,false=>false
 |_,_=>true
def IM (P:Program) (T:Nat) (ti:cb):Bool:=match P.info? T,P.underlying T with
 |some i,some d=>Nat.beq i.size ti.size&&Nat.beq i.bytes ti.bytes&&(d.isRow == ti.row)&&s7 (some d) ti.kd&&(match i.zero with
  |some aC=>s8 aC.cells.toList ti.zero&&OE aC d.isRow
  |none=>false)&&(match d with
  | .struct fs=>qY P fs.toList ti.mv
  |_=>true)&&Nat.ble ti.bytes 32768&&(match ti.u with
  |some u=>Nat.beq (aQ u) ti.size
  |none=>true)&& !Nat.beq ti.size 0&&Nat.beq ti.zero.length ti.size
 |_,_=>false
def dc.all (p:Nat->cb->Bool):dc->Bool
 | .leaf=>true
 | .node l k x r=>l.all p&&p k x&&r.all p
theorem dc.IN {p:Nat->cb->Bool}: ∀(t:dc),t.all p=true-> ∀T ti,t.find T=some ti->p T ti=true
 | .leaf,_,T,ti,h=>by simp[dc.find] at h
 | .node l k x r,ha,T,ti,h=>by
  simp only[dc.all,vj] at ha;unfold dc.find at h
  split at h
  .exact dc.IN l ha.1.1 T ti h
  .split at h
   .rename_i e;have:=ap6 e;injection h with h
    subst this h;exact ha.1.2
   .exact dc.IN r ha.2 T ti h
def d6 (P:Program) (aS:dc):Prop:= ∀T ti,aS.find T=some ti->IM P T ti=true
theorem d6.of {P:Program} {aS:dc} (h:aS.all (IM P)=true):d6 P aS:=dc.IN aS h
theorem nH {i j:IntKind} (h:l2 i j=true):i=j:=by cases i <;>cases j <;>first |rfl |(simp[l2] at h)
structure l3 (P:Program) (T:Nat) (ti:cb) (i:TypeInfo) (d:TypeDesc):Prop where
 jE:P.info? T=some i
 nI:P.underlying T=some d
 size:i.size=ti.size
 bytes:i.bytes=ti.bytes
 row:d.isRow=ti.row
 kd:s7 (some d) ti.kd=true
 zero: ∃aC,i.zero=some aC/\s8 aC.cells.toList ti.zero=true
 mv: ∀fs,d= .struct fs->qY P fs.toList ti.mv=true
 OF:ti.bytes<=32768
 u: ∀u,ti.u=some u->aQ u=ti.size
 pos:ti.size≠0
 iOz:ti.zero.length=ti.size
 OG: ∀aC,i.zero=some aC->d.isRow=false->aC.cells= #[aC]
theorem d6.at_ {P:Program} {aS:dc} (h:d6 P aS) {T:Nat} {ti:cb} (hf:aS.find T=some ti): ∃i d,l3 P T ti i d:=by
 have H:=h T ti hf;unfold IM at H
 split at H
 .rename_i i d aH J;simp only[vj,Bool.not_eq_true',beq_iff_eq] at H;obtain⟨⟨⟨⟨⟨⟨⟨⟨⟨E,G⟩,aj⟩,aX⟩,bH⟩,fF⟩,jF⟩,iA⟩,vD⟩,Bf⟩:=H;refine⟨i,d,aH,J,ap6 E,ap6 G,aj,aX,?_,?_,Nat.le_of_ble_eq_true jF,?_,fun e=>by rw[e] at vD;simp at vD,ap6 Bf,?_⟩
  .split at bH
   .rename_i aC aR;exact⟨aC,aR,(vj _ _▸bH).1⟩
   .cases bH
  .rintro fs rfl;exact fF
  .intro u a7;rw[a7] at iA;exact ap6 iA
  .intro aC aR aF;rw[aR] at bH;simp only[vj] at bH;have bH:=bH.2;rw[aF] at bH
   cases aC <;>first |rfl |(simp[OE] at bH)
 .cases H
theorem l3.b7 {P:Program} {T:Nat} {ti:cb} {i:TypeInfo} {d:TypeDesc} (h:l3 P T ti i d) {e:Nat} (ab:ti.kd= .b7 e):P.underlying T=some (.slice e):=by
 have:=h.kd;rw[ab] at this;rw[h.nI]
 cases d <;>simp[s7] at this⊢
 exact this
theorem l3.str {P:Program} {T:Nat} {ti:cb} {i:TypeInfo} {d:TypeDesc} (h:l3 P T ti i d) (ab:ti.kd= .str):P.underlying T=some .string:=by
 have:=h.kd;rw[ab] at this;rw[h.nI]
 cases d <;>simp[s7] at this⊢
theorem l3.int {P:Program} {T:Nat} {ti:cb} {i:TypeInfo} {d:TypeDesc} (h:l3 P T ti i d) {k:IntKind} (ab:ti.kd= .int k):P.underlying T=some (.int k):=by
 have:=h.kd;rw[ab] at this;rw[h.nI]
 cases d <;>simp[s7] at this⊢
 exact nH this
theorem l3.ptr {P:Program} {T:Nat} {ti:cb} {i:TypeInfo} {d:TypeDesc} (h:l3 P T ti i d) {e:Nat} (ab:ti.kd= .ptr e):P.underlying T=some (.pointer e):=by
 have:=h.kd;rw[ab] at this;rw[h.nI]
 cases d <;>simp[s7] at this⊢
 exact this
theorem l3.st {P:Program} {T:Nat} {ti:cb} {i:TypeInfo} {d:TypeDesc} (h:l3 P T ti i d) (ab:ti.kd= .st): ∃fs,P.underlying T=some (.struct fs)/\d= .struct fs:=by
 have:=h.kd;rw[ab] at this;rw[h.nI]
 cases d <;>simp[s7] at this⊢
theorem OH {P:Program}: ∀(fs:List Field) (l:List (Nat×Nat)),qY P fs l=true-> ∀(f d n:Nat),l[f]? =some (d,n)-> ∃jG i,fs[f]? =some jG/\jG.offset=d/\P.info? jG.type=some i/\i.size=n/\n≠0
 | [],[],_,f,d,n,h=>by simp at h
 |g::fs,(a,b)::l,ah,0,d,n,h=>by
  simp only[qY,vj,Bool.not_eq_true'] at ah;simp only[aq5,ap4,at3] at h;obtain⟨rfl,rfl⟩:=h;obtain⟨⟨⟨E,G⟩,aj⟩,_⟩:=ah
  split at G
  .rename_i i aH;exact⟨g,i,rfl,ap6 E,aH,ap6 G,fun e=>by subst e;simp at aj⟩
  .cases G
 |g::fs,(a,b)::l,ah,f+1,d,n,h=>by
  simp only[qY,vj] at ah;simpa using OH fs l ah.2 f d n av4
 | [],_::_,ah,_,_,_,_=>by simp[qY] at ah
 |_::_,[],ah,_,_,_,_=>by simp[qY] at ah
section
variable {P:Program} {aS:dc} {N:Nat} {ids:ay5} {o:Oper} {K:aY} {B:aw}
theorem bB.val {v:aP} {ig:ay5} (h: ∀(K':aY) (B':aw),(∀x,x∈o.op.operands->a6 K' x=a6 K x)->(∀c,c∈ig->ag B' c=ag B c)->
  ∀(C:e9) (ρ:Nat->bn) (F:Nat->Nat->Prop) (a:Act) (w:World),Mem ids C B' ρ F w->ee K' ρ (bZ C B' F w) a w-> ∃x,(execOp a.eval o).run P w= .ok (.value x) w/\cr ρ (bZ C B' F w) w v x):
  bB P N ids o K B v ⟨ig,[],[]⟩:=by
 rintro K' B' E G - C a w ⟨hn,J,ρ,F,aq,au⟩ bw fE Q di;obtain⟨x,hx,ay⟩:=h K' B' E G C ρ F a w aq au;unfold Oper.wp;rw[hx,Oper.upon_value];exact di _ _ ⟨kf.trans hn,kg.trans J,ρ,F,aq,au.kh (fun e V=>by rw[hn];exact bw e V) ay⟩
theorem bB.new {v:aP} {ig:ay5} (h: ∀(K':aY) (B':aw),(∀x,x∈o.op.operands->a6 K' x=a6 K x)->(∀c,c∈ig->ag B' c=ag B c)->
  ∀(C:e9) (ρ:Nat->bn) (F:Nat->Nat->Prop) (a:Act) (w:World),Mem ids C B' ρ F w->ee K' ρ (bZ C B' F w) a w-> ∃x w',(execOp a.eval o).run P w= .ok (.value x) w'/\Below w.heap.size w w'/\
   (∀I:Nat->Prop,ce (bZ C B' F w) w I w'->(∀b,w.heap.size<=b->b < w'.heap.size->I b)->cr ρ I w' v x)):
  bB P N ids o K B v ⟨ig,[],[]⟩:=by
 rintro K' B' E G - C a w ⟨hn,J,ρ,F,aq,au⟩ bw fE Q di;obtain⟨x,w',hx,O,ay⟩:=h K' B' E G C ρ F a w aq au;obtain⟨bN,V⟩:=aq.below O;unfold Oper.wp;rw[hx,Oper.upon_value];refine di _ _ ⟨kf.trans hn,kg.trans J,ρ,F,bN,(au.mono V fun _ _ _=>rfl).kh (fun e V=>by rw[hn];exact bw e V) (ay _ V fun b E G=>⟨G,?_,fun c ch H bh=>?_⟩)⟩
 .exact .inr (.inr (aq.fresh E))
 .have:=(aq.own c ch H b bh).1;omega
section
variable {K':aY} {ρ:Nat->bn} {I:Nat->Prop} {a:Act} {w:World} {x:Operand}
theorem ee.ev (au:ee K' ρ I a w) {s:aP} (h:a6 K' x=s):cr ρ I w s (a.eval x):=h▸au.get x
theorem ee.int (au:ee K' ρ I a w) {k:IntKind} {n:Int} (h:a6 K' x= .c (.one (.d (.int k n)))):a.eval x= .int k n:=au.ev h
theorem ee.lit (au:ee K' ρ I a w) {b:Bool} (h:a6 K' x= .c (.one (.d (.lit b)))):a.eval x= .bool b:=au.ev h
theorem ee.bool (au:ee K' ρ I a w) {b:Bool} (h:a6 K' x= .c (.one (.d (.bool b)))):a.eval x= .bool b:=au.ev h
theorem ee.str (au:ee K' ρ I a w) {s:ay4} (h:a6 K' x= .c (.one (.d (.str s)))):a.eval x= .string ⟨s.toArray⟩:=au.ev h
theorem ee.ptr (au:ee K' ρ I a w) {c o:Nat} (h:a6 K' x= .c (.one (.ptr c o))):a.eval x= .pointer (some ⟨(ρ c).bj,o,none⟩):=au.ev h
theorem ee.f2 (au:ee K' ρ I a w) {c s i o:Nat} (h:a6 K' x= .c (.one (.f2 c s i o))):a.eval x= .pointer (some ⟨(ρ c).bj,i*s+o,none⟩):=au.ev h
theorem ee.os (au:ee K' ρ I a w) {c s o n:Nat} (h:a6 K' x= .c (.one (.os c s o n))):a.eval x= .slice (if(ρ c).cap=o then(ρ c).A else(ρ c).A.map (·.add (o*s))) n ((ρ c).cap - o):=au.ev h
theorem ee.bJ (au:ee K' ρ I a w) {v:Value} (h:a6 K' x= .c (.one (.bJ v))):a.eval x=v:=au.ev h
theorem ee.own (au:ee K' ρ I a w) {c:Nat} (h:a6 K' x= .c (.one (.own c))):a.eval x=(ρ c).ey:=au.ev h
theorem ee.dD (au:ee K' ρ I a w) (h:a6 K' x= .c (.one .dD)):a.eval x= .slice none 0 0:=au.ev h
theorem ee.ck (au:ee K' ρ I a w) {u:bx} {xs:List (aa u)} (h:a6 K' x= .c (.one (.d (.ck u xs)))):co I w (.b7 u) xs (fun _=>some (a.eval x)):=au.ev h
end
theorem xb {k:IntKind} {n:Int} (h:t7 k n):k.wrap n=n:=by
 cases k <;>simp only[t7] at h <;>simp[IntKind.wrap,IntKind.bits,IntKind.signed] <;>omega
theorem y4 {x y:Operand} {op:BinOp} {T fG:TypeId}:x∈(Op.binOp op T x y fG).operands/\y∈(Op.binOp op T x y fG).operands:=by simp[Op.operands]
theorem toList_mk (l:ay4):(⟨l.toArray⟩:ByteArray).toList=l:=by rw[ByteArray.toList_eq]
theorem xc (l:ay4):(⟨l.toArray⟩:ByteArray).size=l.length:=by simp[ByteArray.size]
theorem IP {op:BinOp} {T fG:TypeId} {x y:Operand} {a:Act} {w:World} {k:IntKind} {n m r:Int} (ah:o.op= .binOp op T x y fG) (E:a.eval x= .int k n) (G:a.eval y= .int k m)
  (h:(op= .add/\r=n+m)\/(op= .sub/\r=n - m)\/(op= .mul/\r=n*m)) (aF:t7 k r):(execOp a.eval o).run P w= .ok (.value (.int k r)) w:=by
 simp only[execOp,ah,E,G];rcases h with⟨rfl,rfl⟩ |⟨rfl,rfl⟩ |⟨rfl,rfl⟩ <;>simp[eqGuard,go_sem,xb aF,Op.intArith]
theorem OI {op:BinOp} {T fG:TypeId} {x y:Operand} {a:Act} {w:World} {k:IntKind} {n m r:Int} (ah:o.op= .binOp op T x y fG) (E:a.eval x= .int k n) (G:a.eval y= .int k m)
  (hn:0<=n) (az:0 < m) (h:(op= .quo/\r=n/m)\/(op= .rem/\r=n % m)) (aF:t7 k r):(execOp a.eval o).run P w= .ok (.value (.int k r)) w:=by
 have Bg:m≠0:=av3
 simp only[execOp,ah,E,G];rcases h with⟨rfl,rfl⟩ |⟨rfl,rfl⟩
 .have e:n.tdiv m=n/m:=Int.tdiv_eq_ediv_of_nonneg hn;simp[eqGuard,go_sem,Op.intDiv,Bg,e,xb aF]
 .have e:n.tmod m=n % m:=Int.tmod_eq_emod_of_nonneg hn;simp[eqGuard,go_sem,Op.intDiv,Bg,e]
theorem y5 {op:BinOp} {T fG:TypeId} {x y:Operand} {a:Act} {w:World} {k:IntKind} {n m:Int} {b:Bool} (ah:o.op= .binOp op T x y fG) (E:a.eval x= .int k n) (G:a.eval y= .int k m)
  (h:(op= .eql/\b=decide (n=m))\/(op= .neq/\b= !decide (n=m))\/(op= .lss/\b=decide (n < m))\/(op= .leq/\b=decide (n<=m))\/(op= .gtr/\b=decide (m < n))\/(op= .geq/\b=decide (m<=n))):
  (execOp a.eval o).run P w= .ok (.value (.bool b)) w:=by
 simp only[execOp,ah,E,G];rcases h with⟨rfl,rfl⟩ |⟨rfl,rfl⟩ |⟨rfl,rfl⟩ |⟨rfl,rfl⟩ |⟨rfl,rfl⟩ |⟨rfl,rfl⟩
 all_goals
  simp[eqGuard,go_sem,Op.intCmp]
 all_goals
  by_cases e:n=m <;>simp[e]
theorem IQ {op:BinOp} {T fG:TypeId} {x y:Operand} {a:Act} {w:World} {k cN:IntKind} {n m r:Int} (ah:o.op= .binOp op T x y fG) (E:a.eval x= .int k n) (G:a.eval y= .int cN m)
  (hn:0<=n) (az:0<=m) (O:m.toNat<=k.bits) (h:(op= .shl/\r=n*(2 ^m.toNat:Nat))\/(op= .shr/\r=n/(2 ^m.toNat:Nat))) (aF:op= .shl->t7 k r):(execOp a.eval o).run P w= .ok (.value (.int k r)) w:=by
 have Bg: ¬m < 0:=av3
 have bG:min m.toNat k.bits=m.toNat:=av3
 simp only[execOp,ah,E,G];rcases h with⟨rfl,rfl⟩ |⟨rfl,rfl⟩
 .have e:=xb (aF rfl);simp only[Int.natCast_pow,Int.cast_ofNat_Int] at e⊢
  have ax:Op.shift .shl k n cN m=pure (.int k (n*2 ^m.toNat)):=by
   unfold Op.shift;rw[if_neg Bg,bG];simp only;rw[e]
  simp only[eqGuard,binOp,ax];simp[go_sem]
 .have e:n.fdiv (2 ^m.toNat)=n/(2 ^m.toNat):=by rw[Int.fdiv_eq_ediv_of_nonneg];exact Int.pow_nonneg au6
  simp only[Int.natCast_pow,Int.cast_ofNat_Int]
  have ax:Op.shift .shr k n cN m=pure (.int k (n/2 ^m.toNat)):=by
   unfold Op.shift;rw[if_neg Bg,bG];simp only;rw[e]
  simp only[eqGuard,binOp,ax];simp[go_sem]
theorem y6 {op:BinOp} {T fG:TypeId} {x y:Operand} {a:Act} {w:World} {s t:ay4} {b:Bool} (ah:o.op= .binOp op T x y fG) (E:a.eval x= .string ⟨s.toArray⟩) (G:a.eval y= .string ⟨t.toArray⟩)
  (h:(op= .eql/\b=decide (s=t))\/(op= .neq/\b= !decide (s=t))\/(op= .lss/\b=Op.bytesLess s t)\/(op= .leq/\b=(Op.bytesLess s t||decide (s=t)))\/(op= .gtr/\b= !(Op.bytesLess s t||decide (s=t)))\/(op= .geq/\b= !Op.bytesLess s t)):
  (execOp a.eval o).run P w= .ok (.value (.bool b)) w:=by
 have e:(s == t)=decide (s=t):=by by_cases e:s=t <;>simp[e]
 simp only[execOp,ah,E,G];rcases h with⟨rfl,rfl⟩ |⟨rfl,rfl⟩ |⟨rfl,rfl⟩ |⟨rfl,rfl⟩ |⟨rfl,rfl⟩ |⟨rfl,rfl⟩ <;>simp[eqGuard,go_sem,Op.stringOp,toList_mk,e]
theorem XT (s t:ay4):(⟨s.toArray⟩:ByteArray)++⟨t.toArray⟩=⟨(s++t).toArray⟩:=by
 have:((⟨s.toArray⟩:ByteArray)++⟨t.toArray⟩).data=(s++t).toArray:=by
  simp[ByteArray.data_append]
 cases h:(⟨s.toArray⟩:ByteArray)++⟨t.toArray⟩
 rw[h] at this;simp only at this;rw[this]
theorem XU {T fG:TypeId} {x y:Operand} {a:Act} {w:World} {s t:ay4} (ah:o.op= .binOp .add T x y fG) (E:a.eval x= .string ⟨s.toArray⟩) (G:a.eval y= .string ⟨t.toArray⟩)
  (h:s.length+t.length<=4294967296):(execOp a.eval o).run P w= .ok (.value (.string ⟨(s++t).toArray⟩)) w:=by
 simp only[execOp,ah,E,G]
 have hn: ¬(((s.length+t.length:Nat):Int) >IntKind.i64.max):=by
  have:IntKind.i64.max=9223372036854775807:=by decide
  omega
 simp only[eqGuard,binOp,Op.stringOp,xc,XT];rw[if_neg hn];simp[go_sem]
end
end
section
section
variable {P:Program} {aS:dc} {N:Nat} {ids:ay5} {o:Oper} {K:aY} {B:aw} {k:aP->fR->Prop}
theorem bB.one {x:Operand} {Bh v:aP} (hx:a6 K x=Bh) (az:x∈o.op.operands)
  (h: ∀(K':aY) (ρ:Nat->bn) (I:Nat->Prop) (a:Act) (w:World),ee K' ρ I a w->a6 K' x=Bh-> ∃r,(execOp a.eval o).run P w= .ok (.value r) w/\cr ρ I w v r):bB P N ids o K B v bG:=
 bB.val fun K' B' E G C ρ F a w aq au=>h K' ρ _ a w au ((E x az).trans hx)
theorem bB.two {x y:Operand} {Bh OJ v:aP} (hx:a6 K x=Bh) (aB:a6 K y=OJ) (az:x∈o.op.operands) (hn:y∈o.op.operands)
  (h: ∀(K':aY) (ρ:Nat->bn) (I:Nat->Prop) (a:Act) (w:World),ee K' ρ I a w->a6 K' x=Bh->a6 K' y=OJ-> ∃r,(execOp a.eval o).run P w= .ok (.value r) w/\cr ρ I w v r):bB P N ids o K B v bG:=
 bB.val fun K' B' E G C ρ F a w aq au=>h K' ρ _ a w au ((E x az).trans hx) ((E y hn).trans aB)
theorem XV {a b:Int} (E:0<=a) (G:a<=9223372036854775807) (aj:0<=b) (aX:b<=9223372036854775807):
  IntKind.i64.wrap (((BitVec.ofInt 64 a ||| BitVec.ofInt 64 b).toNat:Nat):Int)=((a.toNat ||| b.toNat:Nat):Int):=by
 have ai:(BitVec.ofInt 64 a).toNat=a.toNat:=ax4
 have ao:(BitVec.ofInt 64 b).toNat=b.toNat:=ax4
 rw[BitVec.toNat_or,ai,ao];have h:a.toNat ||| b.toNat < 2 ^63:=Nat.or_lt_two_pow au5 au5;exact xb (by simp only[t7];omega)
theorem OK {op:BinOp} {T fG:TypeId} {x y:Operand} (ah:o.op= .binOp op T x y fG)
  (af:(∃e,P.underlying T=some (.pointer e))\/ ∀c d,a6 K x≠ .c (.one (.ptr c d))/\a6 K x≠ .c (.one (.bJ (.pointer none))))
  (h:Eh op (a6 K x) (a6 K y) k): ∃v,k v bG/\bB P N ids o K B v bG:=by
 have m1:x∈o.op.operands:=by rw[ah];exact y4.1
 have m2:y∈o.op.operands:=by rw[ah];exact y4.2
 unfold Eh at h
 split at h
 .rename_i i a j b hx aB
  have two: ∀(v:aP) (ay:i=j-> ∀(K':aY) (ρ:Nat->bn) (I:Nat->Prop) (fa:Act) (w:World),fa.eval x= .int i a->fa.eval y= .int i b-> ∃r,(execOp fa.eval o).run P w= .ok (.value r) w/\cr ρ I w v r),l2 i j=true->bB P N ids o K B v bG:=fun v ay gI=>
   bB.two hx aB m1 m2 fun K' ρ I fa w au ai ao=>ay (nH gI) K' ρ I fa w (au.int ai) (by rw[nH gI];exact au.int ao)
  have OL: ∀(v:aP) (ay: ∀(K':aY) (ρ:Nat->bn) (I:Nat->Prop) (fa:Act) (w:World),fa.eval x= .int i a->fa.eval y= .int j b-> ∃r,(execOp fa.eval o).run P w= .ok (.value r) w/\cr ρ I w v r),bB P N ids o K B v bG:=fun v ay=>
   bB.two hx aB m1 m2 fun K' ρ I fa w au ai ao=>ay K' ρ I fa w (au.int ai) (au.int ao)
  split at h
  .rename_i gI;have h:=w5 h;exact⟨_,h.2,two _ (fun _ K' ρ I fa w E G=>⟨_,IP ah E G (.inl ⟨rfl,rfl⟩) h.1,rfl⟩) gI⟩
  .rename_i gI;have h:=w5 h;exact⟨_,h.2,two _ (fun _ K' ρ I fa w E G=>⟨_,IP ah E G (.inr (.inl ⟨rfl,rfl⟩)) h.1,rfl⟩) gI⟩
  .rename_i gI;have h:=w5 h;exact⟨_,h.2,two _ (fun _ K' ρ I fa w E G=>⟨_,IP ah E G (.inr (.inr ⟨rfl,rfl⟩)) h.1,rfl⟩) gI⟩
  .rename_i gI;have h':=w5 h.2;exact⟨_,h'.2,two _ (fun _ K' ρ I fa w E G=>⟨_,OI ah E G h.1.1 h.1.2 (.inl ⟨rfl,rfl⟩) h'.1,rfl⟩) gI⟩
  .rename_i gI;have h':=w5 h.2;exact⟨_,h'.2,two _ (fun _ K' ρ I fa w E G=>⟨_,OI ah E G h.1.1 h.1.2 (.inr ⟨rfl,rfl⟩) h'.1,rfl⟩) gI⟩
  .split at h
   .rename_i aH;have:=nH aH;subst this;have h':=w5 h.2;exact⟨_,h'.2,OL _ fun K' ρ I fa w E G=>⟨_,IQ ah E G h.1.1 h.1.2.1 (by simp[IntKind.bits];have:=h.1.2.2;omega) (.inl ⟨rfl,rfl⟩) (fun _=>h'.1),rfl⟩⟩
   .exact h.elim
  .split at h
   .rename_i aH;have:=nH aH;subst this;exact⟨_,h.2,OL _ fun K' ρ I fa w E G=>⟨_,IQ ah E G h.1.1 h.1.2.1 (by simp[IntKind.bits];have:=h.1.2.2;omega) (.inr ⟨rfl,rfl⟩) (fun e=>by cases e),rfl⟩⟩
   .exact h.elim
  .rename_i gI
   split at h
   .rename_i aH;have:=nH aH;subst this;refine⟨_,h.2,two _ (fun Z K' ρ I fa w E G=>⟨_,?_,rfl⟩) gI⟩;have e:=XV h.1.1 h.1.2.1 h.1.2.2.1 h.1.2.2.2
    have ax:Op.intBits .or .i64 a b=pure (.int .i64 ((a.toNat ||| b.toNat:Nat):Int)):=by
     exact congrArg (fun aC:Int=>(pure (Value.int .i64 aC):Sem Value)) e
    simp only[execOp,ah,E,G,eqGuard,binOp,ax];simp[go_sem]
   .exact h.elim
  .rename_i gI;exact⟨_,h,two _ (fun _ K' ρ I fa w E G=>⟨_,y5 ah E G (.inl ⟨rfl,rfl⟩),rfl⟩) gI⟩
  .rename_i gI;exact⟨_,h,two _ (fun _ K' ρ I fa w E G=>⟨_,y5 ah E G (.inr (.inl ⟨rfl,rfl⟩)),rfl⟩) gI⟩
  .rename_i gI;exact⟨_,h,two _ (fun _ K' ρ I fa w E G=>⟨_,y5 ah E G (.inr (.inr (.inl ⟨rfl,rfl⟩))),rfl⟩) gI⟩
  .rename_i gI;exact⟨_,h,two _ (fun _ K' ρ I fa w E G=>⟨_,y5 ah E G (.inr (.inr (.inr (.inl ⟨rfl,rfl⟩)))),rfl⟩) gI⟩
  .rename_i gI;exact⟨_,h,two _ (fun _ K' ρ I fa w E G=>⟨_,y5 ah E G (.inr (.inr (.inr (.inr (.inl ⟨rfl,rfl⟩))))),rfl⟩) gI⟩
  .rename_i gI;exact⟨_,h,two _ (fun _ K' ρ I fa w E G=>⟨_,y5 ah E G (.inr (.inr (.inr (.inr (.inr ⟨rfl,rfl⟩))))),rfl⟩) gI⟩
  .exact h.elim
 .rename_i s t hx aB
  have two: ∀(v:aP) (ay: ∀(K':aY) (ρ:Nat->bn) (I:Nat->Prop) (fa:Act) (w:World),fa.eval x= .string ⟨s.toArray⟩->fa.eval y= .string ⟨t.toArray⟩-> ∃r,(execOp fa.eval o).run P w= .ok (.value r) w/\cr ρ I w v r),bB P N ids o K B v bG:=fun v ay=>
   bB.two hx aB m1 m2 fun K' ρ I fa w au ai ao=>ay K' ρ I fa w (au.str ai) (au.str ao)
  split at h
  .exact⟨_,h.2,two _ fun K' ρ I fa w E G=>⟨_,XU ah E G h.1,rfl⟩⟩
  .exact⟨_,h,two _ fun K' ρ I fa w E G=>⟨_,y6 ah E G (.inl ⟨rfl,rfl⟩),rfl⟩⟩
  .exact⟨_,h,two _ fun K' ρ I fa w E G=>⟨_,y6 ah E G (.inr (.inl ⟨rfl,rfl⟩)),rfl⟩⟩
  .exact⟨_,h,two _ fun K' ρ I fa w E G=>⟨_,y6 ah E G (.inr (.inr (.inl ⟨rfl,rfl⟩))),rfl⟩⟩
  .exact⟨_,h,two _ fun K' ρ I fa w E G=>⟨_,y6 ah E G (.inr (.inr (.inr (.inl ⟨rfl,rfl⟩)))),rfl⟩⟩
  .exact⟨_,h,two _ fun K' ρ I fa w E G=>⟨_,y6 ah E G (.inr (.inr (.inr (.inr (.inl ⟨rfl,rfl⟩))))),rfl⟩⟩
  .exact⟨_,h,two _ fun K' ρ I fa w E G=>⟨_,y6 ah E G (.inr (.inr (.inr (.inr (.inr ⟨rfl,rfl⟩))))),rfl⟩⟩
  .exact h.elim
 .rename_i c d hx aB;obtain⟨e,a7⟩:=af.resolve_right fun h=>(h c d).1 hx
  have q: ∀(p:Addr) (w:World),(Op.equalIn (9999+1) T (.pointer (some p)) (.pointer none)).run P w= .ok false w:=fun p w=>by
   unfold Op.equalIn;simp[run_underlying a7]
  split at h
  .refine⟨_,h,bB.two hx aB m1 m2 fun K' ρ I fa w au ai ao=>⟨_,?_,rfl⟩⟩;simp only[execOp,ah,au.ptr ai,au.bJ ao];simp[eqGuard,binOp,Op.equal,Op.maxDepth,q]
  .refine⟨_,h,bB.two hx aB m1 m2 fun K' ρ I fa w au ai ao=>⟨_,?_,rfl⟩⟩;simp only[execOp,ah,au.ptr ai,au.bJ ao];simp[eqGuard,binOp,Op.equal,Op.maxDepth,q]
  .exact h.elim
 .rename_i hx aB;obtain⟨e,a7⟩:=af.resolve_right fun h=>(h 0 0).2 hx
  have q: ∀(w:World),(Op.equalIn (9999+1) T (.pointer none) (.pointer none)).run P w= .ok true w:=fun w=>by
   unfold Op.equalIn;simp[run_underlying a7]
  split at h
  .refine⟨_,h,bB.two hx aB m1 m2 fun K' ρ I fa w au ai ao=>⟨_,?_,rfl⟩⟩;simp only[execOp,ah,au.bJ ai,au.bJ ao];simp[eqGuard,binOp,Op.equal,Op.maxDepth,q]
  .refine⟨_,h,bB.two hx aB m1 m2 fun K' ρ I fa w au ai ao=>⟨_,?_,rfl⟩⟩;simp only[execOp,ah,au.bJ ai,au.bJ ao];simp[eqGuard,binOp,Op.equal,Op.maxDepth,q]
  .exact h.elim
 .exact h.elim
theorem OM {op:BinOp} {T fG:TypeId} {x y:Operand} (ah:o.op= .binOp op T x y fG) (bm: ∀T,yY aS T=true-> ∃e i,P.underlying T=some (.pointer e)/\P.info? e=some i/\i.size≠0)
  (af: ∃e,P.underlying T=some (.pointer e)) (h:Ej aS T op (a6 K x) (a6 K y) k): ∃v,k v bG/\bB P N ids o K B v bG:=by
 have m1:x∈o.op.operands:=by rw[ah];exact y4.1
 have m2:y∈o.op.operands:=by rw[ah];exact y4.2
 unfold Ej at h
 split at h
 .rename_i p hx;obtain⟨e,a7⟩:=af
  have key: ∀(b:Bool) (r:Option Nat),(∀(ρ:Nat->bn) (I:Nat->Prop) (w:World) (v:Value),cr ρ I w (a6 K y) v->v= .pointer (nC r))->(b=true->p=r/\(r=none\/yY aS T=true))->(b=false->(p=none/\r≠none)\/(p≠none/\r=none))->(op= .eql->bB P N ids o K B (.c (.one (.d (.lit b)))) bG)/\(op= .neq->bB P N ids o K B (.c (.one (.d (.lit !b)))) bG):=by
   intro b r aB E G
   have q: ∀(w:World),(Op.equalIn (9999+1) T (.pointer (nC p)) (.pointer (nC r))).run P w= .ok b w:=by
    intro w;unfold Op.equalIn
    cases b with
    |true=>
     obtain⟨rfl,aj⟩:=E rfl
     cases p with
     |none=>simp[run_underlying a7,nC]
     |some p=>
      rcases aj with aj |aj
      .cases aj
      .obtain⟨b5,i,ci,cN,ec⟩:=bm T aj;rw[a7] at ci;injection ci with ci
       injection ci with ci
       subst ci;simp[run_underlying a7,nC,sizeOf,typeInfo,cN,ec,sameAddr]
    |false=>
     rcases G rfl with⟨rfl,aj⟩ |⟨aj,rfl⟩
     .cases r with
      |none=>exact absurd rfl aj
      |some r=>simp[run_underlying a7,nC]
     .cases p with
      |none=>exact absurd rfl aj
      |some p=>simp[run_underlying a7,nC]
   refine⟨fun ai=>?_,fun ai=>?_⟩
   .subst ai;refine bB.val fun K' B' g1 g2 C ρ F a w aq au=>⟨.bool b,?_,rfl⟩
    have ai:a.eval x= .pointer (nC p):=au.ev ((g1 x m1).trans hx);have ao:a.eval y= .pointer (nC r):=aB _ _ _ _ (au.ev (g1 y m2));simp only[execOp,ah,ai,ao];simp[eqGuard,binOp,Op.equal,Op.maxDepth,q]
   .subst ai;refine bB.val fun K' B' g1 g2 C ρ F a w aq au=>⟨.bool !b,?_,rfl⟩
    have ai:a.eval x= .pointer (nC p):=au.ev ((g1 x m1).trans hx);have ao:a.eval y= .pointer (nC r):=aB _ _ _ _ (au.ev (g1 y m2));simp only[execOp,ah,ai,ao];simp[eqGuard,binOp,Op.equal,Op.maxDepth,q]
  have two: ∀(f:Bool->Prop),Ei aS T p (a6 K y) f-> ∃b,f b/\(op= .eql->bB P N ids o K B (.c (.one (.d (.lit b)))) bG)/\(op= .neq->bB P N ids o K B (.c (.one (.d (.lit !b)))) bG):=by
   intro f h;unfold Ei at h
   split at h
   .rename_i aB;have d4: ∀(ρ:Nat->bn) (I:Nat->Prop) (w:World) (v:Value),cr ρ I w (a6 K y) v->v= .pointer (nC none):=fun ρ I w v ay=>by rw[aB] at ay;exact ay
    cases af:p with
    |some b=>exact⟨_,h.1 b af,by
      have:=key false none d4 (fun e=>by cases e) (fun _=>.inr ⟨by simp[af],rfl⟩);exact this⟩
    |none=>exact⟨_,h.2 af,key true none d4 (fun _=>⟨af,.inl rfl⟩) (fun e=>by cases e)⟩
   .rename_i r aB;have d4: ∀(ρ:Nat->bn) (I:Nat->Prop) (w:World) (v:Value),cr ρ I w (a6 K y) v->v= .pointer (nC r):=fun ρ I w v ay=>by rw[aB] at ay;exact ay
    split at h
    .have aW:yY aS T=true:=by assumption
     obtain⟨rfl,h⟩:=h;exact⟨_,h,key _ _ d4 (fun _=>⟨rfl,.inr aW⟩) (fun e=>by cases e)⟩
    .exact h.elim
   .exact h.elim
  split at h
  .obtain⟨b,E,G,_⟩:=two _ h;exact⟨_,E,G rfl⟩
  .obtain⟨b,E,_,G⟩:=two _ h;exact⟨_,E,G rfl⟩
  .exact h.elim
 .exact OK ah (.inl af) h
theorem ON {op:BinOp} {T fG:TypeId} {x y:Operand} (ah:o.op= .binOp op T x y fG) (a7:P.underlying T=some .bool) {a:Bool} (hx:a6 K x= .c (.one (.d (.bool a)))\/a6 K x= .c (.one (.d (.lit a))))
  (h:El op a (a6 K y) k): ∃v,k v bG/\bB P N ids o K B v bG:=by
 have m1:x∈o.op.operands:=by rw[ah];exact y4.1
 have m2:y∈o.op.operands:=by rw[ah];exact y4.2
 have q: ∀(a b:Bool) (w:World),(Op.equalIn (9999+1) T (.bool a) (.bool b)).run P w= .ok (a == b) w:=fun a b w=>by
  unfold Op.equalIn;simp[run_underlying a7]
 have key: ∀(b:Bool) (r:Bool),(a6 K y= .c (.one (.d (.bool b)))\/a6 K y= .c (.one (.d (.lit b))))->(op= .eql/\r=(a == b))\/(op= .neq/\r= !(a == b))->bB P N ids o K B (.c (.one (.d (.bool r)))) bG:=fun b r aB aF=>
  bB.val fun K' B' E G C ρ F fa w aq au=>by
   have ex:fa.eval x= .bool a:=by
    have:=au.get x;rw[E x m1] at this;rcases hx with hx |hx <;>(rw[hx] at this;exact this)
   have IR:fa.eval y= .bool b:=by
    have:=au.get y;rw[E y m2] at this;rcases aB with aB |aB <;>(rw[aB] at this;exact this)
   refine⟨.bool r,?_,rfl⟩;rcases aF with⟨rfl,rfl⟩ |⟨rfl,rfl⟩ <;>(simp only[execOp,ah,ex,IR];simp[eqGuard,binOp,Op.equal,Op.maxDepth,q])
 unfold El at h
 split at h
 .exact⟨_,h,key _ _ (.inl ‹_›) (.inl ⟨rfl,rfl⟩)⟩
 .exact⟨_,h,key _ _ (.inr ‹_›) (.inl ⟨rfl,rfl⟩)⟩
 .exact⟨_,h,key _ _ (.inl ‹_›) (.inr ⟨rfl,rfl⟩)⟩
 .exact⟨_,h,key _ _ (.inr ‹_›) (.inr ⟨rfl,rfl⟩)⟩
 .exact h.elim
end
end
section
section
variable {ρ:Nat->bn} {I:Nat->Prop} {w:World}
theorem b'.length: ∀(l:List bC) (aE:List Value),b' ρ I w l aE->aE.length=l.length
 | [],_,h=>by rw[show _=[] from h];rfl
 |s::l,_,⟨v,r,e,E,G⟩=>by rw[e,as5,as5,b'.length l r G]
theorem b'.get: ∀(l:List bC) (aE:List Value),b' ρ I w l aE-> ∀(i:Nat) (s:bC),l[i]? =some s-> ∃v,aE[i]? =some v/\dU ρ I w s v
 | [],_,h,i,s,ax=>by simp at ax
 |t::l,_,⟨v,r,e,E,G⟩,0,s,ax=>by
  simp only[aq5,ap4] at ax;subst ax e;exact⟨v,rfl,E⟩
 |t::l,_,⟨v,r,e,E,G⟩,i+1,s,ax=>by
  subst e;simpa using b'.get l r G i s (by simpa using ax)
theorem b'.ud: ∀(l m:List bC) (aE us:List Value),b' ρ I w l aE->b' ρ I w m us->b' ρ I w (l++m) (aE++us)
 | [],m,_,us,h,h'=>by rw[show _=[] from h];exact h'
 |s::l,m,_,us,⟨v,r,e,E,G⟩,h'=>⟨v,r++us,by rw[e];rfl,E,b'.ud l m r us G h'⟩
theorem b'.Ey: ∀(n:Nat) (l:List bC) (aE:List Value),b' ρ I w l aE->b' ρ I w (l.take n) (aE.take n)
 |0,_,_,_=>rfl
 |n+1,[],_,h=>by rw[show _=[] from h];rfl
 |n+1,s::l,_,⟨v,r,e,E,G⟩=>⟨v,r.take n,by rw[e];rfl,E,b'.Ey n l r G⟩
theorem b'.qZ: ∀(n:Nat) (l:List bC) (aE:List Value),b' ρ I w l aE->b' ρ I w (l.drop n) (aE.drop n)
 |0,_,_,h=>h
 |n+1,[],_,h=>by rw[show _=[] from h];rfl
 |n+1,s::l,_,⟨v,r,e,E,G⟩=>by rw[e];exact b'.qZ n l r G
theorem b'.splice {l cs:List bC} {aE us:List Value} {o:Nat} (h:b' ρ I w l aE) (h':b' ρ I w cs us):b' ρ I w (Ba l o cs) (aE.take o++us++aE.drop (o+us.length)):=by
 unfold Ba;rw[b'.length cs us h'];exact b'.ud _ _ _ _ (b'.ud _ _ _ _ (b'.Ey _ _ _ h) h') (b'.qZ _ _ _ h)
theorem ok_one {s:bC} {v:Value} (h:s.ok=true) (ay:dU ρ I w s v):v.oneCell'=true:=by
 cases s with
 |d x=>
  cases x with
  |ck u xs=>obtain⟨A,cap,e,_⟩:=ay;injection e with e;rw[e];rfl
  |dC y=>rw[show v=qR y from ay];rcases y with _ |⟨b,n,c⟩ <;>rfl
  |fn y=>rw[show v=mq y from ay];rfl
  |_=>rw[show v=_ from ay];rfl
 |ptr c o=>rw[show v=_ from ay];rfl
 |own c=>rw[show v=_ from ay];rfl
 |el u x o=>obtain⟨b,p,e,_⟩:=ay;rw[e];rfl
 |f2 c s i o=>rw[show v=_ from ay];rfl
 |os c s o n=>rw[show v=_ from ay];rfl
 |mp c=>rw[show v=_ from ay];rfl
 |cU f l=>obtain⟨aE,e,_⟩:=ay;rw[e];rfl
 |dD=>rw[show v=_ from ay];rfl
 |bJ u=>
  rw[show v=u from ay]
  cases u <;>first |rfl |(simp[bC.ok] at h)
 |any=>simp[bC.ok] at h
theorem OO: ∀{l:List bC} {aE:List Value},Eb l=true->b' ρ I w l aE-> ∀u∈aE,u.oneCell'=true
 | [],_,_,ay,u,a7=>by rw[show _=[] from ay] at a7;cases a7
 |s::l,_,h,⟨v,r,e,E,G⟩,u,a7=>by
  simp only[Eb,vj] at h;subst e;rcases ap3.1 a7 with rfl |a7
  .exact ok_one h.1 E
  .exact OO h.2 G u a7
theorem IS {pn:aP} {l:List bC} {v:Value} (h:vz pn=some l) (ay:cr ρ I w pn v): ∃aE,v.cells=List.toArray aE/\b' ρ I w l aE/\ ∀u∈aE,u.oneCell'=true:=by
 unfold vz at h
 split at h
 .split at h
  .rename_i s ax;injection h with h
   subst h;have E:=ok_one ax ay;refine⟨[v],?_,⟨v,[],rfl,ay,rfl⟩,fun u a7=>by simp at a7;rw[a7];exact E⟩
   cases v <;>first |rfl |(simp[Value.oneCell'] at E)
  .cases h
 .split at h
  .rename_i l' al;injection h with h
   subst h;obtain⟨aE,e,G⟩:=ay;exact⟨aE,by rw[e];rfl,G,OO al G⟩
  .cases h
 .cases h
end
def c5 {α:Type} (f:Nat->α) (c:Nat) (x:α):Nat->α:=fun d=>if d=c then x else f d
theorem c6 {α:Type} (f:Nat->α) (c:Nat) (x:α):c5 f c x c=x:=if_pos rfl
theorem dd {α:Type} (f:Nat->α) {c d:Nat} (x:α) (h:d≠c):c5 f c x d=f d:=if_neg h
theorem OP {c:Nat}: ∀{K:aY},t2 c K=true-> ∀s,(dA K s).has c=false
 | [],_,s=>rfl
 |(t,v)::K,h,s=>by
  simp only[t2,vj,Bool.not_eq_true'] at h;rw[ke]
  split
  .exact h.1
  .exact OP h.2 s
theorem ue {c:Nat}: ∀{B:aw},ki c B=true->ag B c=none/\ ∀d ch,ag B d=some ch->ch.has c=false
 | [],_=>⟨rfl,fun d ch h=>by cases h⟩
 |(t,v)::B,h=>by
  simp only[ki,vj,Bool.not_eq_true'] at h;obtain⟨E,G⟩:=ue h.2;have a2:t≠c:=fun e=>by subst e;simp at h
  refine⟨by rw[ca,if_neg a2];exact E,fun d ch J=>?_⟩;rw[ca] at J
  split at J
  .injection J with J;subst J;exact h.1.2
  .exact G d ch J
theorem kM {ids:ay5} {K:aY} {B:aw} {c:Nat} (h:gX ids K B c=true):(∀s,(dA K s).has c=false)/\ag B c=none/\(∀d ch,ag B d=some ch->ch.has c=false)/\c∉ids:=by
 simp only[gX,vj,Bool.not_eq_true'] at h;obtain⟨G,aj⟩:=ue h.1.2;exact⟨OP h.1.1,G,aj,by simpa using h.2⟩
section
variable {P:Program} {aS:dc} {N:Nat} {ids:ay5} {o:Oper} {K:aY} {B:aw} {C:e9} {ρ:Nat->bn} {F:Nat->Nat->Prop} {w w':World}
theorem Mem.make (h:Mem ids C B ρ F w) {c:Nat} {ch:bb} (hf:gX ids K B c=true) (O:Below w.heap.size w w') (pl:bn) (b8:Nat->Prop) (kN: ∀b,b8 b->w.heap.size<=b/\b < w'.heap.size)
  (cX: ∀I,ce (bZ C B F w) w I w'->(∀b,I b->b < w'.heap.size/\ ¬b8 b)->Holds (c5 ρ c pl) I b8 w' pl ch):
  Mem ids C ((c,ch)::B) (c5 ρ c pl) (c5 F c b8) w'/\ce (bZ C B F w) w (bZ C ((c,ch)::B) (c5 F c b8) w') w':=by
 obtain⟨h2,jn,po,f4⟩:=kM hf;refine h.step (fun d=>d=c) (fun d=>d=c) (cK.mo O) ?_ (fun d J=>dd _ _ J) (fun d J=>dd _ _ J) (fun d J e=>f4 (e▸J)) (fun _ h=>h) ?_ ?_ ?_ ?_
 .intro d ch' J a2;rw[ca,if_neg (fun e=>a2 e.symm)] at J;exact J
 .rintro d ch' J _ e V rfl;rw[po d ch' J] at V
  cases V
 .rintro d ch' J rfl V;rw[ca,if_pos rfl] at J;injection J with J
  subst J;rw[c6,c6];exact cX _ V fun b dm=>⟨dm.1,fun a1=>dm.2.2 d ch aw1 (by rw[c6];exact a1)⟩
 .rintro d ch' J rfl b a1;rw[c6] at a1;exact⟨(kN b a1).2,.inr (kN b a1).1⟩
 .rintro d c1 iU oE b _ _ rfl rfl a2;exact absurd rfl a2
theorem Mem.hP (h:Mem ids C B ρ F w) {c:Nat} {cw ch:bb} (H:ag B c=some cw) (cz:cK (F c) w w')
  (cX: ∀I,ce (bZ C B F w) w I w'->Holds ρ I (F c) w' (ρ c) ch):
  Mem ids C ((c,ch)::B) ρ F w'/\ce (bZ C B F w) w (bZ C ((c,ch)::B) F w') w':=by
 refine h.step (fun d=>d=c) (fun _=>False) (cz.mono fun b _ O=>⟨c,cw,H,rfl,O⟩) ?_ (fun _ _=>rfl) (fun _ _=>rfl) (fun _ _ h=>h) (fun _ h=>h.elim) (fun _ _ _ _ _ _ h=>h) ?_ ?_ ?_
 .intro d ch' J a2;rw[ca,if_neg (fun e=>a2 e.symm)] at J;exact J
 .rintro d ch' J rfl V;rw[ca,if_pos rfl] at J;injection J with J
  subst J;exact cX _ V
 .rintro d ch' J rfl b O;exact⟨Nat.lt_of_lt_of_le (h.own d cw H b O).1 cz.size,.inl ⟨d,cw,H,rfl,O⟩⟩
 .rintro d c1 iU oE b _ _ rfl rfl a2;exact absurd rfl a2
theorem bB.make {c:Nat} {ch:bb} {v:aP} {ig:ay5} (ay: ∀d,v.has d=true->d=c)
  (h: ∀(K':aY) (B':aw),(∀x,x∈o.op.operands->a6 K' x=a6 K x)->(∀c,c∈ig->ag B' c=ag B c)-> ∀(C:e9) (ρ:Nat->bn) (F:Nat->Nat->Prop) (a:Act) (w:World),Mem ids C B' ρ F w->ee K' ρ (bZ C B' F w) a w->
   (∀s,(dA K' s).has c=false)-> ∃x w' pl b8,(execOp a.eval o).run P w= .ok (.value x) w'/\Below w.heap.size w w'/\(∀b,b8 b->w.heap.size<=b/\b < w'.heap.size)/\
    (∀I,ce (bZ C B' F w) w I w'->(∀b,I b->b < w'.heap.size/\ ¬b8 b)->Holds (c5 ρ c pl) I b8 w' pl ch/\cr (c5 ρ c pl) I w' v x)):
  bB P N ids o K B v ⟨ig,[c],[(c,some ch)]⟩:=by
 rintro K' B' E G aj C a w ⟨hn,J,ρ,F,aq,au⟩ bw fE Q di;have hf:=aj c au7;have cz:=kM hf;obtain⟨x,w',pl,b8,hx,O,kN,cX⟩:=h K' B' E G C ρ F a w aq au cz.1;obtain⟨bN,V⟩:=aq.make hf O pl b8 kN fun I ai ao=>(cX I ai ao).1
 unfold Oper.wp;rw[hx,Oper.upon_value];refine di _ _ ⟨kf.trans hn,kg.trans J,c5 ρ c pl,c5 F c b8,bN,(au.mono V fun s d J=>dd _ _ (fun e=>by subst e;rw[cz.1 s] at J;cases J)).kh (fun e V=>by rw[hn];exact bw e V) ?_⟩;exact(cX _ V fun b dm=>⟨dm.1,fun a1=>dm.2.2 c ch aw1 (by rw[c6];exact a1)⟩).2
theorem bB.hP {c:Nat} {cw ch:bb} (H:ag B c=some cw)
  (h: ∀(K':aY) (B':aw),(∀x,x∈o.op.operands->a6 K' x=a6 K x)-> ∀(C:e9) (ρ:Nat->bn) (F:Nat->Nat->Prop) (a:Act) (w:World),Mem ids C B' ρ F w->ee K' ρ (bZ C B' F w) a w->ag B' c=some cw-> ∃w',(execOp a.eval o).run P w= .ok .skip w'/\cK (F c) w w'/\
   (∀I,ce (bZ C B' F w) w I w'->Holds ρ I (F c) w' (ρ c) ch)):
  bB P N ids o K B .undef ⟨[c],[],[(c,some ch)]⟩:=by
 rintro K' B' E G - C a w ⟨hn,J,ρ,F,aq,au⟩ bw fE Q di;have cF:ag B' c=some cw:=(G c au7).trans H;obtain⟨w',hx,cz,cX⟩:=h K' B' E C ρ F a w aq au cF;obtain⟨bN,V⟩:=aq.hP cF cz cX;unfold Oper.wp;rw[hx,Oper.upon_skip];exact di _ _ ⟨kf.trans hn,kg.trans J,ρ,F,bN,(au.mono V fun _ _ _=>rfl).kh (fun e V=>by rw[hn];exact bw e V) rfl⟩
theorem OQ {T:TypeId} {p:Addr} {v:Value} {d:TypeDesc} (a7:P.underlying T=some d) (J:d.isRow=false) (H:w.cell? p=some v):(loadVar T p).run P w= .ok v w:=by
 cases d <;>first |(simp[TypeDesc.isRow] at J;done) |simp[loadVar,isAgg,run_underlying a7,go_sem,H]
theorem Ez {ev:Operand->Value} {T:TypeId} {x:Operand} {p:Addr} {v:Value} {d:TypeDesc} (ah:o.op= .load T x) (E:ev x= .pointer (some p)) (a7:P.underlying T=some d) (J:d.isRow=false) (H:w.cell? p=some v):(execOp ev o).run P w= .ok (.value v) w:=by
 unfold execOp;simp only[ah,E,Instr.loadAt,Instr.sureAddr,Sem.run_bind,Sem.run_pure,Result.andThen_ok,OQ a7 J H]
theorem EA {ev:Operand->Value} {T:TypeId} {x:Operand} {b p:Nat} {cs:List Value} {d:TypeDesc} {i:TypeInfo} (ah:o.op= .load T x) (E:ev x= .pointer (some ⟨b,p,none⟩)) (a7:P.underlying T=some d) (J:d.isRow=true) (aH:P.info? T=some i) (al:i.size=cs.length)
  (H: ∀(j:Nat) (u:Value),cs[j]? =some u->w.cell? ⟨b,p+j,none⟩=some u):(execOp ev o).run P w= .ok (.value (.agg cs.toArray)) w:=by
 unfold execOp;simp only[ah,E,Instr.loadAt,Instr.sureAddr,Sem.run_bind,Sem.run_pure,Result.andThen_ok,run_loadVar_mid w b p T cs d H a7 J (by rw[aH,at2,al])]
theorem oF {b:Nat} {aE:List Value} {T:Nat} (h:w.heap[b]? =some (.cells (List.toArray aE) T (0,0))) {j:Nat} {v:Value} (Z:aE[j]? =some v):w.cell? ⟨b,j,none⟩=some v:=by
 simp[World.cell?,h,Z]
theorem Bi {ev:Operand->Value} {T:TypeId} {x y:Operand} {b p:Nat} {aE us:List Value} {bx:Nat} {i:TypeInfo} (ah:o.op= .store T x y) (E:ev x= .pointer (some ⟨b,p,none⟩)) (aB:(ev y).cells=List.toArray us) (aH:P.info? T=some i) (al:i.size=us.length)
  (O:w.heap[b]? =some (.cells (List.toArray aE) bx (0,0))) (k2:p+us.length<=aE.length) (rY: ∀u∈us,u.oneCell'=true):
  (execOp ev o).run P w= .ok .skip (w.setRow b (aE.take p++us++aE.drop (p+us.length)).toArray):=by
 have ax:=run_storeCells_at (P:=P) b p bx us 0 (List.toArray aE) w O (by simpa using k2) rY;simp only[Nat.add_zero,List.toList_toArray] at ax;have aR:(ev y).cells.size=i.size:=by rw[aB,al];simp
 unfold execOp;simp[ah,E,Instr.storeAt,Instr.sureAddr,storeVar,sizeOf,typeInfo,aH,aB,al,ax]
end
end
section
section
variable {P:Program} {aS:dc} {N:Nat} {ids:ay5} {o:Oper} {K:aY} {B:aw} {k:aP->fR->Prop}
def cB (P:Program) (N:Nat) (ids:ay5) (o:Oper) (K:aY) (B:aw) (k:aP->fR->Prop):Prop:= ∃v e,k v e/\bB P N ids o K B v e/\ ∀c,c∈e.bc->gX ids K B c=true
theorem cB.of {v:aP} {ig:ay5} {hA:List (Nat×Option bb)} (h:k v ⟨ig,[],hA⟩) (aD:bB P N ids o K B v ⟨ig,[],hA⟩):cB P N ids o K B k:=⟨_,_,h,aD,fun c H=>by cases H⟩
theorem cB.bc {v:aP} {ig:ay5} {d:Nat} {hA:List (Nat×Option bb)} (h:k v ⟨ig,[d],hA⟩) (hf:gX ids K B d=true) (aD:bB P N ids o K B v ⟨ig,[d],hA⟩):cB P N ids o K B k:=⟨_,_,h,aD,fun c H=>by simp at H;rw[H];exact hf⟩
theorem OR {x:Operand} (ah:o.op= .move x\/o.op= .assign x) (h:oB (a6 K x) fun v=>k v bG):cB P N ids o K B k:=by
 rw[rW] at h;refine cB.of h <| bB.one rfl (by rcases ah with ah |ah <;>rw[ah] <;>simp[Op.operands]) fun K' ρ I a w au e=>⟨_,?_,au.ev e⟩
 rcases ah with ah |ah <;>simp[execOp,ah]
theorem XW {c x y:Operand} (ah:o.op= .pick c x y) (h:match a6 K c with
  | .c (.one (.d (.lit true)))=>oB (a6 K x) fun v=>k v bG
  | .c (.one (.d (.lit false)))=>oB (a6 K y) fun v=>k v bG
  |_=>False):cB P N ids o K B k:=by
 have m1:c∈o.op.operands:=av2
 have m2:x∈o.op.operands:=av2
 have m3:y∈o.op.operands:=av2
 split at h
 .rename_i H;rw[rW] at h;exact cB.of h <| bB.two H rfl m1 m2 fun K' ρ I a w au ai ao=>⟨_,by simp[execOp,ah,au.lit ai,asBool],au.ev ao⟩
 .rename_i H;rw[rW] at h;exact cB.of h <| bB.two H rfl m1 m3 fun K' ρ I a w au ai ao=>⟨_,by simp[execOp,ah,au.lit ai,asBool],au.ev ao⟩
 .exact h.elim
theorem XX {T:TypeId} {x:Operand} (ah:o.op= .unOp .not T x) (h:match a6 K x with
  | .c (.one (.d (.lit true)))=>k (.c (.one (.d (.lit false)))) bG
  | .c (.one (.d (.lit false)))=>k (.c (.one (.d (.lit true)))) bG
  | .c (.one (.d (.bool b)))=>k (.c (.one (.d (.bool (!b))))) bG
  |_=>False):cB P N ids o K B k:=by
 have m1:x∈o.op.operands:=av2
 split at h
 .rename_i H;exact cB.of h <| bB.one H m1 fun K' ρ I a w au ai=>⟨_,by simp[execOp,ah,au.lit ai,Op.unary],rfl⟩
 .rename_i H;exact cB.of h <| bB.one H m1 fun K' ρ I a w au ai=>⟨_,by simp[execOp,ah,au.lit ai,Op.unary],rfl⟩
 .rename_i b H;exact cB.of h <| bB.one H m1 fun K' ρ I a w au ai=>⟨_,by simp[execOp,ah,au.bool ai,Op.unary],rfl⟩
 .exact h.elim
theorem iM.get {ρ:Nat->bn} {I:Nat->Prop} {w:World}: ∀(l:List dI) (aE:List Value),iM ρ I w l aE-> ∀(i:Nat) (s:dI),l[i]? =some s-> ∃v,aE[i]? =some v/\gA ρ I w s v
 | [],_,h,i,s,ax=>by simp at ax
 |t::l,_,⟨v,r,e,E,G⟩,0,s,ax=>by
  simp only[aq5,ap4] at ax;subst ax e;exact⟨v,rfl,E⟩
 |t::l,_,⟨v,r,e,E,G⟩,i+1,s,ax=>by
  subst e;simpa using iM.get l r G i s (by simpa using ax)
theorem XY {x:Operand} {i:Nat} (ah:o.op= .extract x i) (h:match a6 K x with
  | .cf l=>match l[i]? with
   |some v=>k (.c v) bG
   |none=>False
  |_=>False):cB P N ids o K B k:=by
 have m1:x∈o.op.operands:=av2
 split at h
 .rename_i l al
  split at h
  .rename_i v ay;refine cB.of h <| bB.one al m1 fun K' ρ I a w au ai=>?_
   obtain⟨aE,e,G⟩:=au.ev ai;obtain⟨u,a7,aj⟩:=iM.get l aE G i v ay;exact⟨u,by simp[execOp,ah,e,Instr.extract,a7],aj⟩
  .exact h.elim
 .exact h.elim
theorem XZ {x:Operand} (ah:o.op= .nilCheck x) (h:match a6 K x with
  | .c (.one (.ptr c o))=>k (.c (.one (.ptr c o))) bG
  | .c (.one (.el u y o))=>k (.c (.one (.el u y o))) bG
  | .c (.one (.f2 c s i o))=>k (.c (.one (.f2 c s i o))) bG
  |_=>False):cB P N ids o K B k:=by
 have m1:x∈o.op.operands:=av2
 split at h
 .rename_i c p H;exact cB.of h <| bB.one H m1 fun K' ρ I a w au ai=>⟨_,by simp[execOp,ah,au.ptr ai],rfl⟩
 .rename_i u y p H;refine cB.of h <| bB.one H m1 fun K' ρ I a w au ai=>⟨a.eval x,?_,au.ev ai⟩
  obtain⟨b,q,e,_⟩:=au.ev ai;simp[execOp,ah,e]
 .rename_i c s i p H;exact cB.of h <| bB.one H m1 fun K' ρ I a w au ai=>⟨_,by simp[execOp,ah,au.f2 ai],rfl⟩
 .exact h.elim
theorem EB {ev:Operand->Value} {T:TypeId} {x:Operand} {f g off d:Nat} {w:World} {fs:Array Field} {jG:Field} {i:TypeInfo} (E:ev x= .pointer (some ⟨g,off,none⟩)) (ah:o.op= .fieldAddr T x f)
  (cd:P.underlying T=some (.struct fs)) (uf:fs[f]? =some jG) (J:jG.offset=d) (aH:P.info? jG.type=some i) (cM:i.size≠0):(execOp ev o).run P w= .ok (.value (.pointer (some ⟨g,off+d,none⟩))) w:=by
 subst J;simp[execOp,ah,E,Instr.fieldAt,run_underlying cd,uf,Instr.sureAddr,fieldPlace,sizeOf,typeInfo,aH,cM,p1]
theorem X0 (bm:d6 P aS) {T:TypeId} {x:Operand} {f:Nat} (ah:o.op= .fieldAddr T x f) (h:match Iv aS T f with
  |some (d,_)=>match a6 K x with
   | .c (.one (.ptr c o))=>k (.c (.one (.ptr c (o+d)))) bG
   | .c (.one (.el u y o))=>k (.c (.one (.el u y (o+d)))) bG
   | .c (.one (.f2 c s i o))=>k (.c (.one (.f2 c s i (o+d)))) bG
   |_=>False
  |none=>False):cB P N ids o K B k:=by
 have m1:x∈o.op.operands:=av2
 split at h
 .rename_i d n J
  have⟨fs,jG,i,cd,uf,IT,aH,aR⟩: ∃fs jG i,P.underlying T=some (.struct fs)/\fs[f]? =some jG/\jG.offset=d/\P.info? jG.type=some i/\i.size≠0:=by
   unfold Iv at J
   split at J
   .rename_i ti gB
    split at J
    .rename_i ab;obtain⟨i,s9,bu⟩:=bm.at_ gB;obtain⟨fs,a7,rfl⟩:=bu.st ab;obtain⟨jG,OS,E,G,aj,aX,bH⟩:=OH _ _ (bu.mv fs rfl) f d n J;exact⟨fs,jG,OS,a7,by simpa using E,G,aj,by rw[aX];exact bH⟩
    .cases J
   .cases J
  split at h
  .rename_i c p H;exact cB.of h <| bB.one H m1 fun K' ρ I a w au ai=>⟨_,EB (au.ptr ai) ah cd uf IT aH aR,rfl⟩
  .rename_i u y p H;refine cB.of h <| bB.one H m1 fun K' ρ I a w au ai=>?_
   obtain⟨b,q,e,G⟩:=au.ev ai;exact⟨_,EB e ah cd uf IT aH aR,b,q,by rw[Nat.add_assoc],G⟩
  .rename_i c s j p H;exact cB.of h <| bB.one H m1 fun K' ρ I a w au ai=>⟨_,EB (au.f2 ai) ah cd uf IT aH aR,by simp only[cr,gA,dU];rw[Nat.add_assoc]⟩
  .exact h.elim
 .exact h.elim
theorem EC {ρ:Nat->bn} {I:Nat->Prop} {w:World} {u:bx} {y:aa u} {c:Nat->Option Value} (aB:co I w u y c): ∀(n p:Nat),p+n<=aQ u-> ∃aE,b' ρ I w (gi u y p n) aE/\ ∀(j:Nat) (v:Value),aE[j]? =some v->c (p+j)=some v
 |0,p,_=>⟨[],rfl,fun j v h=>by simp at h⟩
 |n+1,p,h=>by
  obtain⟨v,E,G⟩:=co.cell u y c p aB au5;obtain⟨aE,aj,aX⟩:=EC aB n (p+1) au5;refine⟨v::aE,⟨v,aE,rfl,G,aj⟩,fun j cW Z=>?_⟩
  match j with
  |0=>simp only[aq5,ap4] at Z;subst Z;exact E
  |j+1=>rw[show p+(j+1)=p+1+j by omega];exact aX j cW aw4
theorem ta (u:bx) (y:aa u): ∀(n p:Nat),(gi u y p n).length=n
 |0,_=>rfl
 |n+1,p=>by simp[gi,ta u y n]
theorem y7 (u:bx) (y:aa u): ∀(n p i:Nat),i < n->(gi u y p n)[i]? =some (.d (fC u y (p+i)))
 |0,p,i,h=>by omega
 |n+1,p,0,h=>rfl
 |n+1,p,i+1,h=>by
  have:=y7 u y n (p+1) i au5;rw[show p+1+i=p+(i+1) by omega] at this;simpa[gi] using this
theorem Bj {ρ:Nat->bn} {I:Nat->Prop} {w:World} {u:bx} {y:aa u} (hw:oy u y) {aE:List Value} (h:b' ρ I w (gi u y 0 (aQ u)) aE):co I w u y (fun j=>aE[j]?):=
 co.mk u y _ hw fun j Z=>by
  have a1:=y7 u y (aQ u) 0 j Z;rw[Nat.zero_add] at a1;obtain⟨v,ai,ao⟩:=b'.get _ _ h j _ a1;exact⟨v,ai,ao⟩
theorem ED {T:TypeId} {x:Operand} (ah:o.op= .load T x) {ti:cb} {i:TypeInfo} {d:TypeDesc} (bu:l3 P T ti i d) {u:bx} {y:aa u} {p:Nat} {a:Act} {w:World} {I:Nat->Prop} {ρ:Nat->bn} {b q:Nat}
  (V:a.eval x= .pointer (some ⟨b,q+p,none⟩)) (aB:co I w u y (fun j=>w.cell? ⟨b,q+j,none⟩)):
  (ti.row=true->p+ti.size<=aQ u-> ∃r,(execOp a.eval o).run P w= .ok (.value r) w/\cr ρ I w (.c (.agg (gi u y p ti.size))) r)/\
  (ti.row=false->p < aQ u-> ∃r,(execOp a.eval o).run P w= .ok (.value r) w/\cr ρ I w (.c (.one (.d (fC u y p)))) r):=by
 constructor
 .intro aF gZ;obtain⟨aE,E,G⟩:=EC (ρ:=ρ) aB ti.size p gZ;refine⟨_,EA (cs:=aE) ah V bu.nI (bu.row.trans aF) bu.jE (by rw[b'.length _ _ E,ta];exact bu.size) (fun j v Z=>?_),aE,rfl,E⟩;rw[Nat.add_assoc];exact G j v Z
 .intro aF bw;obtain⟨v,E,G⟩:=co.cell u y _ p aB bw;exact⟨v,Ez ah V bu.nI (bu.row.trans aF) E,G⟩
theorem X1 {ρ:Nat->bn} {I F:Nat->Prop} {w:World} {p:bn} {e:TypeId} {u:bx} {xs:List (aa u)} (h:Holds ρ I F w p (.row e u xs)) {i:Nat} {y:aa u} (aB:fD xs i=some y):
  co I w u y (fun j=>w.cell? ⟨p.bj,i*aQ u+j,none⟩):=by
 obtain⟨E,G,cs,aj,aX⟩:=h;refine co.mono (ce.refl _ _) u y _ _ (fun j v Z=>?_) (aX i y aB);have Z:cs[i*aQ u+j]? =some v:=Z;have hx:=A6 aB;have Bk:=aj;obtain⟨al,aj⟩:=aj;rcases aj with⟨_,av⟩ |⟨g,cap,c9,ay,_,a1,_,_,_,cq⟩
 .omega
 .have O:p.ey.ownBlock=some g:=by rw[ay];rfl
  rw[<-G g O];have:=Bk.cells O (i*aQ u+j) v Z
  rwa[p1,Nat.zero_add] at this
theorem X2 (bm:d6 P aS) {T:TypeId} {x:Operand} (ah:o.op= .load T x) (h:match aS.find T with
  |some ti=>match a6 K x with
   | .c (.one (.ptr c o))=>match ag B c with
    |some (.cells l)=>match ti.row with
     |true=>match Nat.ble (o+ti.size) l.length with
      |true=>pm ((l.drop o).take ti.size) fun l=>k (.c (.agg l)) ⟨[c],[],[]⟩
      |false=>False
     |false=>match l[o]? with
      |some s=>yV s fun s=>k (.c (.one s)) ⟨[c],[],[]⟩
      |none=>False
    |_=>False
   | .c (.one (.el u y o))=>match ti.row with
    |true=>match Nat.ble (o+ti.size) (aQ u) with
     |true=>pm (gi u y o ti.size) fun l=>k (.c (.agg l)) bG
     |false=>False
    |false=>match Nat.blt o (aQ u) with
     |true=>yU (fC u y o) fun x=>k (.c (.one (.d x))) bG
     |false=>False
   | .c (.one (.f2 c s i o))=>match ag B c with
    |some (.row _ u xs)=>match Nat.beq s (aQ u) with
     |true=> ∃y,fD xs i=some y/\match ti.row with
      |true=>match Nat.ble (o+ti.size) (aQ u) with
       |true=>pm (gi u y o ti.size) fun l=>k (.c (.agg l)) ⟨[c],[],[]⟩
       |false=>False
      |false=>match Nat.blt o (aQ u) with
       |true=>yU (fC u y o) fun x=>k (.c (.one (.d x))) ⟨[c],[],[]⟩
       |false=>False
     |false=>False
    |_=>False
   |_=>False
  |none=>False):cB P N ids o K B k:=by
 have m1:x∈o.op.operands:=av2
 split at h
 .rename_i ti gB;obtain⟨i,d,bu⟩:=bm.at_ gB
  split at h
  .rename_i c p H
   split at h
   .rename_i l al
    have key: ∀(K':aY) (B':aw),(∀x,x∈o.op.operands->a6 K' x=a6 K x)->(∀d,d∈ [c]->ag B' d=ag B d)-> ∀(C:e9) (ρ:Nat->bn) (F:Nat->Nat->Prop) (a:Act) (w:World),Mem ids C B' ρ F w->ee K' ρ (bZ C B' F w) a w->
      a.eval x= .pointer (some ⟨(ρ c).bj,p,none⟩)/\ ∃aE T,w.heap[(ρ c).bj]? =some (.cells (List.toArray aE) T (0,0))/\b' ρ (bZ C B' F w) w l aE:=fun K' B' E G C ρ F a w aq au=>by
     have bk:=aq.holds c _ ((G c au7).trans al);exact⟨au.ptr ((E x m1).trans H),bk.2⟩
    split at h
    .rename_i aF
     split at h
     .rename_i gZ;have gZ:=Nat.le_of_ble_eq_true gZ;rw[yW] at h;refine cB.of h <| bB.val fun K' B' E G C ρ F a w aq au=>?_
      obtain⟨ai,aE,eS,O,J⟩:=key K' B' E G C ρ F a w aq au;have jW:=b'.Ey ti.size _ _ (b'.qZ p _ _ J);refine⟨_,EA (cs:=(aE.drop p).take ti.size) ah ai bu.nI (bu.row.trans aF) bu.jE ?_ (fun j u Z=>?_),_,rfl,jW⟩
      .rw[b'.length _ _ jW,ap8,at1,bu.size];omega
      .rw[List.getElem?_take] at Z
       split at Z
       .rw[List.getElem?_drop] at Z;exact oF O Z
       .cases Z
     .exact h.elim
    .rename_i aF
     split at h
     .rename_i s ax;rw[Ie] at h;refine cB.of h <| bB.val fun K' B' E G C ρ F a w aq au=>?_
      obtain⟨ai,aE,eS,O,J⟩:=key K' B' E G C ρ F a w aq au;obtain⟨v,ay,jW⟩:=b'.get _ _ J p s ax;exact⟨v,Ez ah ai bu.nI (bu.row.trans aF) (oF O ay),jW⟩
     .exact h.elim
   .exact h.elim
  .rename_i u y p H
   split at h
   .rename_i aF
    split at h
    .rename_i gZ;rw[yW] at h;refine cB.of h <| bB.one H m1 fun K' ρ I a w au ai=>?_
     obtain⟨b,q,e,_,aB⟩:=au.ev ai;exact(ED ah bu e aB).1 aF (Nat.le_of_ble_eq_true gZ)
    .exact h.elim
   .rename_i aF
    split at h
    .rename_i bw;rw[Id] at h;refine cB.of h <| bB.one H m1 fun K' ρ I a w au ai=>?_
     obtain⟨b,q,e,_,aB⟩:=au.ev ai;exact(ED ah bu e aB).2 aF (by simpa[Nat.blt_eq] using bw)
    .exact h.elim
  .rename_i c s j p H
   split at h
   .rename_i e u xs al
    split at h
    .rename_i ax;have ax:=ap6 ax;subst ax;obtain⟨y,aB,h⟩:=h
     have key: ∀(K':aY) (B':aw),(∀x,x∈o.op.operands->a6 K' x=a6 K x)->(∀d,d∈ [c]->ag B' d=ag B d)-> ∀(C:e9) (ρ:Nat->bn) (F:Nat->Nat->Prop) (a:Act) (w:World),Mem ids C B' ρ F w->ee K' ρ (bZ C B' F w) a w->
       a.eval x= .pointer (some ⟨(ρ c).bj,j*aQ u+p,none⟩)/\co (bZ C B' F w) w u y (fun i=>w.cell? ⟨(ρ c).bj,j*aQ u+i,none⟩):=fun K' B' E G C ρ F a w aq au=>
      ⟨au.f2 ((E x m1).trans H),X1 (aq.holds c _ ((G c au7).trans al)) aB⟩
     split at h
     .rename_i aF
      split at h
      .rename_i gZ;rw[yW] at h;refine cB.of h <| bB.val fun K' B' E G C ρ F a w aq au=>?_
       obtain⟨ai,ao⟩:=key K' B' E G C ρ F a w aq au;exact(ED ah bu ai ao).1 aF (Nat.le_of_ble_eq_true gZ)
      .exact h.elim
     .rename_i aF
      split at h
      .rename_i bw;rw[Id] at h;refine cB.of h <| bB.val fun K' B' E G C ρ F a w aq au=>?_
       obtain⟨ai,ao⟩:=key K' B' E G C ρ F a w aq au;exact(ED ah bu ai ao).2 aF (by simpa[Nat.blt_eq] using bw)
      .exact h.elim
    .exact h.elim
   .exact h.elim
  .exact h.elim
 .exact h.elim
end
end
end Go.Proofs.YthnboghbhgapcaaGreat
