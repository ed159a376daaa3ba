/-
A part of the proof of this claim: lemmas, with no condition beyond what each says.
-/
import Derived.Deep.MidRow
import Derived.Test.YtkfbeijmgggkmaaGreatZd2
set_option linter.unusedVariables false
set_option linter.unusedSimpArgs false
set_option maxRecDepth 10000
set_option maxHeartbeats 4000000
namespace Go.Proofs.YtkfbeijmgggkmaaGreat
open Go.RowKit Go.Proofs
section
def tj:Option TypeDesc->Pl->Bool
 |some (.int k),.int dZ=>l7 k dZ
 |some .bool,.bool=>true
 |some .string,.str=>true
 |some (.pointer e),.ptr b7=>Nat.beq e b7
 |some (.slice e),.b' b7=>Nat.beq e b7
 |some (.struct _),.st=>true
 |some (.array n e),.arr n' b7=>Nat.beq n n'&&Nat.beq e b7
 |some (.map k e),.mp dZ b7=>Nat.beq k dZ&&Nat.beq e b7
 |some (.func _ _ _),.other=>true
 |some (.interface _),.other=>true
 |_,_=>false
def Ji:Value->bB->Bool
 | .int k n,.d (.int dZ n')=>l7 k dZ&&decide (n=n')
 | .bool b,.d (.lit d5)=>b == d5
 | .string s,.d (.str l)=>decide (s.data.toList=l)
 | .slice none 0 0,.dK=>true
 | .pointer none,.bJ (.pointer none)=>true
 | .map none,.bJ (.map none)=>true
 | .nilFunc,.bJ .nilFunc=>true
 | .nilIface,.bJ .nilIface=>true
 |_,_=>false
def tk:List Value->List bB->Bool
 | [],[]=>true
 |v::aE,s::l=>Ji v s&&tk aE l
 |_,_=>false
def q8 (P:Program):List Field->List (Nat×Nat)->Bool
 | [],[]=>true
 |f::fs,(d,n)::l=>Nat.beq f.offset d&&(match P.info? f.type with
  |some i=>Nat.beq i.size n
  |none=>false)&& !Nat.beq n 0&&q8 P fs l
 |_,_=>false
def Pv:Value->Bool->Bool
 | .agg _,false=>false
 |_,_=>true
def Jj (P:Program) (T:Nat) (ti:ca):Bool:=match P.info? T,P.underlying T with
 |some i,some d=>Nat.beq i.size ti.size&&Nat.beq i.bytes ti.bytes&&(d.isRow == ti.row)&&tj (some d) ti.kd&&(match i.zero with
  |some aB=>tk aB.cells.toList ti.zero&&Pv aB d.isRow
  |none=>false)&&(match d with
  | .struct fs=>q8 P fs.toList ti.mE
  |_=>true)&&Nat.ble ti.bytes 32768&&(match ti.u with
  |some u=>Nat.beq (aQ u) ti.size
  |none=>true)&& !Nat.beq ti.size 0&&Nat.beq ti.zero.length ti.size
 |_,_=>false
def dg.all (p:Nat->ca->Bool):dg->Bool
 | .leaf=>true
 | .node l k x r=>l.all p&&p k x&&r.all p
theorem dg.Jk {p:Nat->ca->Bool}: ∀(t:dg),t.all p=true-> ∀T ti,t.find T=some ti->p T ti=true
 | .leaf,_,T,ti,h=>by simp[dg.find] at h
 | .node l k x r,ha,T,ti,h=>by
  simp only[dg.all,vj] at ha;unfold dg.find at h
  split at h
  .exact dg.Jk l ha.1.1 T ti h
  .split at h
   .rename_i e;have:=aq6 e;injection h with h
    subst this h;exact ha.1.2
   .exact dg.Jk r ha.2 T ti h
def ec (P:Program) (aS:dg):Prop:= ∀T ti,aS.find T=some ti->Jj P T ti=true
theorem ec.of {P:Program} {aS:dg} (h:aS.all (Jj P)=true):ec P aS:=dg.Jk aS h
theorem nR {i j:IntKind} (h:l7 i j=true):i=j:=by cases i <;>cases j <;>first |rfl |(simp[l7] at h)
structure l8 (P:Program) (T:Nat) (ti:ca) (i:TypeInfo) (d:TypeDesc):Prop where
 jY:P.info? T=some i
 nS:P.underlying T=some d
 size:i.size=ti.size
 bytes:i.bytes=ti.bytes
 row:d.isRow=ti.row
 kd:tj (some d) ti.kd=true
 zero: ∃aB,i.zero=some aB/\tk aB.cells.toList ti.zero=true
 mE: ∀fs,d= .struct fs->q8 P fs.toList ti.mE=true
 Pw:ti.bytes<=32768
 u: ∀u,ti.u=some u->aQ u=ti.size
 pos:ti.size≠0
 Jl:ti.zero.length=ti.size
 Px: ∀aB,i.zero=some aB->d.isRow=false->aB.cells= #[aB]
theorem ec.at_ {P:Program} {aS:dg} (h:ec P aS) {T:Nat} {ti:ca} (hf:aS.find T=some ti): ∃i d,l8 P T ti i d:=by
 have J:=h T ti hf;unfold Jj at J
 split at J
 .rename_i i d aF H;simp only[vj,Bool.not_eq_true',beq_iff_eq] at J;obtain⟨⟨⟨⟨⟨⟨⟨⟨⟨E,G⟩,af⟩,aW⟩,bG⟩,fF⟩,jZ⟩,iu⟩,vU⟩,BK⟩:=J;refine⟨i,d,aF,H,aq6 E,aq6 G,af,aW,?_,?_,aw8 jZ,?_,fun e=>by rw[e] at vU;simp at vU,aq6 BK,?_⟩
  .split at bG
   .rename_i aB aN;exact⟨aB,aN,(vj _ _▸bG).1⟩
   .cases bG
  .rintro fs rfl;exact fF
  .intro u a6;rw[a6] at iu;exact aq6 iu
  .intro aB aN ax;rw[aN] at bG;simp only[vj] at bG;have bG:=bG.2;rw[ax] at bG
   cases aB <;>first |rfl |(simp[Pv] at bG)
 .cases J
theorem l8.b' {P:Program} {T:Nat} {ti:ca} {i:TypeInfo} {d:TypeDesc} (h:l8 P T ti i d) {e:Nat} (aa:ti.kd= .b' e):P.underlying T=some (.slice e):=by
 have:=h.kd;rw[aa] at this;rw[h.nS]
 cases d <;>simp[tj] at this⊢
 exact this
theorem l8.str {P:Program} {T:Nat} {ti:ca} {i:TypeInfo} {d:TypeDesc} (h:l8 P T ti i d) (aa:ti.kd= .str):P.underlying T=some .string:=by
 have:=h.kd;rw[aa] at this;rw[h.nS]
 cases d <;>simp[tj] at this⊢
theorem l8.int {P:Program} {T:Nat} {ti:ca} {i:TypeInfo} {d:TypeDesc} (h:l8 P T ti i d) {k:IntKind} (aa:ti.kd= .int k):P.underlying T=some (.int k):=by
 have:=h.kd;rw[aa] at this;rw[h.nS]
 cases d <;>simp[tj] at this⊢
 exact nR this
theorem l8.ptr {P:Program} {T:Nat} {ti:ca} {i:TypeInfo} {d:TypeDesc} (h:l8 P T ti i d) {e:Nat} (aa:ti.kd= .ptr e):P.underlying T=some (.pointer e):=by
 have:=h.kd;rw[aa] at this;rw[h.nS]
 cases d <;>simp[tj] at this⊢
 exact this
theorem l8.st {P:Program} {T:Nat} {ti:ca} {i:TypeInfo} {d:TypeDesc} (h:l8 P T ti i d) (aa:ti.kd= .st): ∃fs,P.underlying T=some (.struct fs)/\d= .struct fs:=by
 have:=h.kd;rw[aa] at this;rw[h.nS]
 cases d <;>simp[tj] at this⊢
theorem Py {P:Program}: ∀(fs:List Field) (l:List (Nat×Nat)),q8 P fs l=true-> ∀(f d n:Nat),l[f]? =some (d,n)-> ∃j0 i,fs[f]? =some j0/\j0.offset=d/\P.info? j0.type=some i/\i.size=n/\n≠0
 | [],[],_,f,d,n,h=>by simp at h
 |g::fs,(a,b)::l,ah,0,d,n,h=>by
  simp only[q8,vj,Bool.not_eq_true'] at ah;simp only[ar3,aq4,av7] at h;obtain⟨rfl,rfl⟩:=h;obtain⟨⟨⟨E,G⟩,af⟩,_⟩:=ah
  split at G
  .rename_i i aF;exact⟨g,i,rfl,aq6 E,aF,aq6 G,fun e=>by subst e;simp at af⟩
  .cases G
 |g::fs,(a,b)::l,ah,f+1,d,n,h=>by
  simp only[q8,vj] at ah;simpa using Py fs l ah.2 f d n az3
 | [],_::_,ah,_,_,_,_=>by simp[q8] at ah
 |_::_,[],ah,_,_,_,_=>by simp[q8] at ah
section
variable {P:Program} {aS:dg} {N:Nat} {ids:aC4} {o:Oper} {K:aY} {B:az}
theorem bA.val {v:aP} {jg:aC4} (h: ∀(K':aY) (B':az),(∀x,x∈o.op.operands->a2 K' x=a2 K x)->(∀c,c∈jg->ag B' c=ag B c)->
  ∀(C:fg) (ρ:Nat->bn) (F:Nat->Nat->Prop) (a:Act) (w:World),Mem ids C B' ρ F w->eq K' ρ (bX C B' F w) a w-> ∃x,(execOp a.eval o).run P w= .ok (.value x) w/\cw ρ (bX C B' F w) w v x):
  bA P N ids o K B v ⟨jg,[],[]⟩:=by
 rintro K' B' E G - C a w ⟨hn,H,ρ,F,aj,ar⟩ bt fJ Q cV;obtain⟨x,hx,ay⟩:=h K' B' E G C ρ F a w aj ar;unfold Oper.wp;rw[hx,Oper.upon_value];exact cV _ _ ⟨ki.trans hn,kj.trans H,ρ,F,aj,ar.kk (fun e U=>by rw[hn];exact bt e U) ay⟩
theorem bA.new {v:aP} {jg:aC4} (h: ∀(K':aY) (B':az),(∀x,x∈o.op.operands->a2 K' x=a2 K x)->(∀c,c∈jg->ag B' c=ag B c)->
  ∀(C:fg) (ρ:Nat->bn) (F:Nat->Nat->Prop) (a:Act) (w:World),Mem ids C B' ρ F w->eq K' ρ (bX C B' F w) a w-> ∃x w',(execOp a.eval o).run P w= .ok (.value x) w'/\Below w.heap.size w w'/\
   (∀I:Nat->Prop,cm (bX C B' F w) w I w'->(∀b,w.heap.size<=b->b < w'.heap.size->I b)->cw ρ I w' v x)):
  bA P N ids o K B v ⟨jg,[],[]⟩:=by
 rintro K' B' E G - C a w ⟨hn,H,ρ,F,aj,ar⟩ bt fJ Q cV;obtain⟨x,w',hx,O,ay⟩:=h K' B' E G C ρ F a w aj ar;obtain⟨bI,U⟩:=aj.below O;unfold Oper.wp;rw[hx,Oper.upon_value];refine cV _ _ ⟨ki.trans hn,kj.trans H,ρ,F,bI,(ar.mono U fun _ _ _=>rfl).kk (fun e U=>by rw[hn];exact bt e U) (ay _ U fun b E G=>⟨G,?_,fun c ch J bh=>?_⟩)⟩
 .exact .inr (.inr (aj.fresh E))
 .have:=(aj.own c ch J b bh).1;omega
section
variable {K':aY} {ρ:Nat->bn} {I:Nat->Prop} {a:Act} {w:World} {x:Operand}
theorem eq.ev (ar:eq K' ρ I a w) {s:aP} (h:a2 K' x=s):cw ρ I w s (a.eval x):=h▸ar.get x
theorem eq.int (ar:eq K' ρ I a w) {k:IntKind} {n:Int} (h:a2 K' x= .c (.one (.d (.int k n)))):a.eval x= .int k n:=ar.ev h
theorem eq.lit (ar:eq K' ρ I a w) {b:Bool} (h:a2 K' x= .c (.one (.d (.lit b)))):a.eval x= .bool b:=ar.ev h
theorem eq.bool (ar:eq K' ρ I a w) {b:Bool} (h:a2 K' x= .c (.one (.d (.bool b)))):a.eval x= .bool b:=ar.ev h
theorem eq.str (ar:eq K' ρ I a w) {s:aC3} (h:a2 K' x= .c (.one (.d (.str s)))):a.eval x= .string ⟨s.toArray⟩:=ar.ev h
theorem eq.ptr (ar:eq K' ρ I a w) {c o:Nat} (h:a2 K' x= .c (.one (.ptr c o))):a.eval x= .pointer (some ⟨(ρ c).bk,o,none⟩):=ar.ev h
theorem eq.gc (ar:eq K' ρ I a w) {c s i o:Nat} (h:a2 K' x= .c (.one (.gc c s i o))):a.eval x= .pointer (some ⟨(ρ c).bk,i*s+o,none⟩):=ar.ev h
theorem eq.os (ar:eq K' ρ I a w) {c s o n:Nat} (h:a2 K' x= .c (.one (.os c s o n))):a.eval x= .slice (if(ρ c).cap=o then(ρ c).A else(ρ c).A.map (·.add (o*s))) n ((ρ c).cap - o):=ar.ev h
theorem eq.bJ (ar:eq K' ρ I a w) {v:Value} (h:a2 K' x= .c (.one (.bJ v))):a.eval x=v:=ar.ev h
theorem eq.own (ar:eq K' ρ I a w) {c:Nat} (h:a2 K' x= .c (.one (.own c))):a.eval x=(ρ c).ef:=ar.ev h
theorem eq.dK (ar:eq K' ρ I a w) (h:a2 K' x= .c (.one .dK)):a.eval x= .slice none 0 0:=ar.ev h
theorem eq.co (ar:eq K' ρ I a w) {u:bz} {xs:List (Z u)} (h:a2 K' x= .c (.one (.d (.co u xs)))):cu I w (.b' u) xs (fun _=>some (a.eval x)):=ar.ev h
end
theorem xu {k:IntKind} {n:Int} (h:uk k n):k.wrap n=n:=by
 cases k <;>simp only[uk] at h <;>simp[IntKind.wrap,IntKind.bits,IntKind.signed] <;>omega
theorem zq {x y:Operand} {op:BinOp} {T fG:TypeId}:x∈(Op.binOp op T x y fG).operands/\y∈(Op.binOp op T x y fG).operands:=by simp[Op.operands]
theorem toList_mk (l:aC3):(⟨l.toArray⟩:ByteArray).toList=l:=by rw[ByteArray.toList_eq]
theorem xv (l:aC3):(⟨l.toArray⟩:ByteArray).size=l.length:=by simp[ByteArray.size]
theorem Jm {op:BinOp} {T fG:TypeId} {x y:Operand} {a:Act} {w:World} {k:IntKind} {n m r:Int} (ah:o.op= .binOp op T x y fG) (E:a.eval x= .int k n) (G:a.eval y= .int k m)
  (h:(op= .add/\r=n+m)\/(op= .sub/\r=n - m)\/(op= .mul/\r=n*m)) (ax:uk k r):(execOp a.eval o).run P w= .ok (.value (.int k r)) w:=by
 simp only[execOp,ah,E,G];rcases h with⟨rfl,rfl⟩ |⟨rfl,rfl⟩ |⟨rfl,rfl⟩ <;>simp[eqGuard,go_sem,xu ax,Op.intArith]
theorem Pz {op:BinOp} {T fG:TypeId} {x y:Operand} {a:Act} {w:World} {k:IntKind} {n m r:Int} (ah:o.op= .binOp op T x y fG) (E:a.eval x= .int k n) (G:a.eval y= .int k m)
  (hn:0<=n) (aA:0 < m) (h:(op= .quo/\r=n/m)\/(op= .rem/\r=n % m)) (ax:uk k r):(execOp a.eval o).run P w= .ok (.value (.int k r)) w:=by
 have BL:m≠0:=az2
 simp only[execOp,ah,E,G];rcases h with⟨rfl,rfl⟩ |⟨rfl,rfl⟩
 .have e:n.tdiv m=n/m:=Int.tdiv_eq_ediv_of_nonneg hn;simp[eqGuard,go_sem,Op.intDiv,BL,e,xu ax]
 .have e:n.tmod m=n % m:=Int.tmod_eq_emod_of_nonneg hn;simp[eqGuard,go_sem,Op.intDiv,BL,e]
theorem zr {op:BinOp} {T fG:TypeId} {x y:Operand} {a:Act} {w:World} {k:IntKind} {n m:Int} {b:Bool} (ah:o.op= .binOp op T x y fG) (E:a.eval x= .int k n) (G:a.eval y= .int k m)
  (h:(op= .eql/\b=decide (n=m))\/(op= .neq/\b= !decide (n=m))\/(op= .lss/\b=decide (n < m))\/(op= .leq/\b=decide (n<=m))\/(op= .gtr/\b=decide (m < n))\/(op= .geq/\b=decide (m<=n))):
  (execOp a.eval o).run P w= .ok (.value (.bool b)) w:=by
 simp only[execOp,ah,E,G];rcases h with⟨rfl,rfl⟩ |⟨rfl,rfl⟩ |⟨rfl,rfl⟩ |⟨rfl,rfl⟩ |⟨rfl,rfl⟩ |⟨rfl,rfl⟩
 all_goals
  simp[eqGuard,go_sem,Op.intCmp]
 all_goals
  by_cases e:n=m <;>simp[e]
theorem Jn {op:BinOp} {T fG:TypeId} {x y:Operand} {a:Act} {w:World} {k cT:IntKind} {n m r:Int} (ah:o.op= .binOp op T x y fG) (E:a.eval x= .int k n) (G:a.eval y= .int cT m)
  (hn:0<=n) (aA:0<=m) (O:m.toNat<=k.bits) (h:(op= .shl/\r=n*(2 ^m.toNat:Nat))\/(op= .shr/\r=n/(2 ^m.toNat:Nat))) (ax:op= .shl->uk k r):(execOp a.eval o).run P w= .ok (.value (.int k r)) w:=by
 have BL: ¬m < 0:=az2
 have bF:min m.toNat k.bits=m.toNat:=az2
 simp only[execOp,ah,E,G];rcases h with⟨rfl,rfl⟩ |⟨rfl,rfl⟩
 .have e:=xu (ax rfl);simp only[Int.natCast_pow,Int.cast_ofNat_Int] at e⊢
  have aw:Op.shift .shl k n cT m=pure (.int k (n*2 ^m.toNat)):=by
   unfold Op.shift;rw[if_neg BL,bF];simp only;rw[e]
  simp only[eqGuard,binOp,aw];simp[go_sem]
 .have e:n.fdiv (2 ^m.toNat)=n/(2 ^m.toNat):=by rw[Int.fdiv_eq_ediv_of_nonneg];exact Int.pow_nonneg ay5
  simp only[Int.natCast_pow,Int.cast_ofNat_Int]
  have aw:Op.shift .shr k n cT m=pure (.int k (n/2 ^m.toNat)):=by
   unfold Op.shift;rw[if_neg BL,bF];simp only;rw[e]
  simp only[eqGuard,binOp,aw];simp[go_sem]
theorem zs {op:BinOp} {T fG:TypeId} {x y:Operand} {a:Act} {w:World} {s t:aC3} {b:Bool} (ah:o.op= .binOp op T x y fG) (E:a.eval x= .string ⟨s.toArray⟩) (G:a.eval y= .string ⟨t.toArray⟩)
  (h:(op= .eql/\b=decide (s=t))\/(op= .neq/\b= !decide (s=t))\/(op= .lss/\b=Op.bytesLess s t)\/(op= .leq/\b=(Op.bytesLess s t||decide (s=t)))\/(op= .gtr/\b= !(Op.bytesLess s t||decide (s=t)))\/(op= .geq/\b= !Op.bytesLess s t)):
  (execOp a.eval o).run P w= .ok (.value (.bool b)) w:=by
 have e:(s == t)=decide (s=t):=by by_cases e:s=t <;>simp[e]
 simp only[execOp,ah,E,G];rcases h with⟨rfl,rfl⟩ |⟨rfl,rfl⟩ |⟨rfl,rfl⟩ |⟨rfl,rfl⟩ |⟨rfl,rfl⟩ |⟨rfl,rfl⟩ <;>simp[eqGuard,go_sem,Op.stringOp,toList_mk,e]
theorem YH (s t:aC3):(⟨s.toArray⟩:ByteArray)++⟨t.toArray⟩=⟨(s++t).toArray⟩:=by
 have:((⟨s.toArray⟩:ByteArray)++⟨t.toArray⟩).data=(s++t).toArray:=by
  simp[ByteArray.data_append]
 cases h:(⟨s.toArray⟩:ByteArray)++⟨t.toArray⟩
 rw[h] at this;simp only at this;rw[this]
theorem YI {T fG:TypeId} {x y:Operand} {a:Act} {w:World} {s t:aC3} (ah:o.op= .binOp .add T x y fG) (E:a.eval x= .string ⟨s.toArray⟩) (G:a.eval y= .string ⟨t.toArray⟩)
  (h:s.length+t.length<=4294967296):(execOp a.eval o).run P w= .ok (.value (.string ⟨(s++t).toArray⟩)) w:=by
 simp only[execOp,ah,E,G]
 have hn: ¬(((s.length+t.length:Nat):Int) >IntKind.i64.max):=by
  have:IntKind.i64.max=9223372036854775807:=by decide
  omega
 simp only[eqGuard,binOp,Op.stringOp,xv,YH];rw[if_neg hn];simp[go_sem]
end
end
section
section
variable {P:Program} {aS:dg} {N:Nat} {ids:aC4} {o:Oper} {K:aY} {B:az} {k:aP->fP->Prop}
theorem bA.one {x:Operand} {BM v:aP} (hx:a2 K x=BM) (aA:x∈o.op.operands)
  (h: ∀(K':aY) (ρ:Nat->bn) (I:Nat->Prop) (a:Act) (w:World),eq K' ρ I a w->a2 K' x=BM-> ∃r,(execOp a.eval o).run P w= .ok (.value r) w/\cw ρ I w v r):bA P N ids o K B v bF:=
 bA.val fun K' B' E G C ρ F a w aj ar=>h K' ρ _ a w ar ((E x aA).trans hx)
theorem bA.two {x y:Operand} {BM PA v:aP} (hx:a2 K x=BM) (aD:a2 K y=PA) (aA:x∈o.op.operands) (hn:y∈o.op.operands)
  (h: ∀(K':aY) (ρ:Nat->bn) (I:Nat->Prop) (a:Act) (w:World),eq K' ρ I a w->a2 K' x=BM->a2 K' y=PA-> ∃r,(execOp a.eval o).run P w= .ok (.value r) w/\cw ρ I w v r):bA P N ids o K B v bF:=
 bA.val fun K' B' E G C ρ F a w aj ar=>h K' ρ _ a w ar ((E x aA).trans hx) ((E y hn).trans aD)
theorem YJ {a b:Int} (E:0<=a) (G:a<=9223372036854775807) (af:0<=b) (aW:b<=9223372036854775807):
  IntKind.i64.wrap (((BitVec.ofInt 64 a ||| BitVec.ofInt 64 b).toNat:Nat):Int)=((a.toNat ||| b.toNat:Nat):Int):=by
 have ae:(BitVec.ofInt 64 a).toNat=a.toNat:=aB4
 have ao:(BitVec.ofInt 64 b).toNat=b.toNat:=aB4
 rw[BitVec.toNat_or,ae,ao];have h:a.toNat ||| b.toNat < 2 ^63:=Nat.or_lt_two_pow ay4 ay4;exact xu (by simp only[uk];omega)
theorem PB {op:BinOp} {T fG:TypeId} {x y:Operand} (ah:o.op= .binOp op T x y fG)
  (ai:(∃e,P.underlying T=some (.pointer e))\/ ∀c d,a2 K x≠ .c (.one (.ptr c d))/\a2 K x≠ .c (.one (.bJ (.pointer none))))
  (h:EM op (a2 K x) (a2 K y) k): ∃v,k v bF/\bA P N ids o K B v bF:=by
 have m1:x∈o.op.operands:=by rw[ah];exact zq.1
 have m2:y∈o.op.operands:=by rw[ah];exact zq.2
 unfold EM at h
 split at h
 .rename_i i a j b hx aD
  have two: ∀(v:aP) (ay:i=j-> ∀(K':aY) (ρ:Nat->bn) (I:Nat->Prop) (fi:Act) (w:World),fi.eval x= .int i a->fi.eval y= .int i b-> ∃r,(execOp fi.eval o).run P w= .ok (.value r) w/\cw ρ I w v r),l7 i j=true->bA P N ids o K B v bF:=fun v ay gN=>
   bA.two hx aD m1 m2 fun K' ρ I fi w ar ae ao=>ay (nR gN) K' ρ I fi w (ar.int ae) (by rw[nR gN];exact ar.int ao)
  have PC: ∀(v:aP) (ay: ∀(K':aY) (ρ:Nat->bn) (I:Nat->Prop) (fi:Act) (w:World),fi.eval x= .int i a->fi.eval y= .int j b-> ∃r,(execOp fi.eval o).run P w= .ok (.value r) w/\cw ρ I w v r),bA P N ids o K B v bF:=fun v ay=>
   bA.two hx aD m1 m2 fun K' ρ I fi w ar ae ao=>ay K' ρ I fi w (ar.int ae) (ar.int ao)
  split at h
  .rename_i gN;have h:=xn h;exact⟨_,h.2,two _ (fun _ K' ρ I fi w E G=>⟨_,Jm ah E G (.inl ⟨rfl,rfl⟩) h.1,rfl⟩) gN⟩
  .rename_i gN;have h:=xn h;exact⟨_,h.2,two _ (fun _ K' ρ I fi w E G=>⟨_,Jm ah E G (.inr (.inl ⟨rfl,rfl⟩)) h.1,rfl⟩) gN⟩
  .rename_i gN;have h:=xn h;exact⟨_,h.2,two _ (fun _ K' ρ I fi w E G=>⟨_,Jm ah E G (.inr (.inr ⟨rfl,rfl⟩)) h.1,rfl⟩) gN⟩
  .rename_i gN;have h':=xn h.2;exact⟨_,h'.2,two _ (fun _ K' ρ I fi w E G=>⟨_,Pz ah E G h.1.1 h.1.2 (.inl ⟨rfl,rfl⟩) h'.1,rfl⟩) gN⟩
  .rename_i gN;have h':=xn h.2;exact⟨_,h'.2,two _ (fun _ K' ρ I fi w E G=>⟨_,Pz ah E G h.1.1 h.1.2 (.inr ⟨rfl,rfl⟩) h'.1,rfl⟩) gN⟩
  .split at h
   .rename_i aF;have:=nR aF;subst this;have h':=xn h.2;exact⟨_,h'.2,PC _ fun K' ρ I fi w E G=>⟨_,Jn ah E G h.1.1 h.1.2.1 (by simp[IntKind.bits];have:=h.1.2.2;omega) (.inl ⟨rfl,rfl⟩) (fun _=>h'.1),rfl⟩⟩
   .exact h.elim
  .split at h
   .rename_i aF;have:=nR aF;subst this;exact⟨_,h.2,PC _ fun K' ρ I fi w E G=>⟨_,Jn ah E G h.1.1 h.1.2.1 (by simp[IntKind.bits];have:=h.1.2.2;omega) (.inr ⟨rfl,rfl⟩) (fun e=>by cases e),rfl⟩⟩
   .exact h.elim
  .rename_i gN
   split at h
   .rename_i aF;have:=nR aF;subst this;refine⟨_,h.2,two _ (fun V K' ρ I fi w E G=>⟨_,?_,rfl⟩) gN⟩;have e:=YJ h.1.1 h.1.2.1 h.1.2.2.1 h.1.2.2.2
    have aw:Op.intBits .or .i64 a b=pure (.int .i64 ((a.toNat ||| b.toNat:Nat):Int)):=by
     exact congrArg (fun aB:Int=>(pure (Value.int .i64 aB):Sem Value)) e
    simp only[execOp,ah,E,G,eqGuard,binOp,aw];simp[go_sem]
   .exact h.elim
  .rename_i gN;exact⟨_,h,two _ (fun _ K' ρ I fi w E G=>⟨_,zr ah E G (.inl ⟨rfl,rfl⟩),rfl⟩) gN⟩
  .rename_i gN;exact⟨_,h,two _ (fun _ K' ρ I fi w E G=>⟨_,zr ah E G (.inr (.inl ⟨rfl,rfl⟩)),rfl⟩) gN⟩
  .rename_i gN;exact⟨_,h,two _ (fun _ K' ρ I fi w E G=>⟨_,zr ah E G (.inr (.inr (.inl ⟨rfl,rfl⟩))),rfl⟩) gN⟩
  .rename_i gN;exact⟨_,h,two _ (fun _ K' ρ I fi w E G=>⟨_,zr ah E G (.inr (.inr (.inr (.inl ⟨rfl,rfl⟩)))),rfl⟩) gN⟩
  .rename_i gN;exact⟨_,h,two _ (fun _ K' ρ I fi w E G=>⟨_,zr ah E G (.inr (.inr (.inr (.inr (.inl ⟨rfl,rfl⟩))))),rfl⟩) gN⟩
  .rename_i gN;exact⟨_,h,two _ (fun _ K' ρ I fi w E G=>⟨_,zr ah E G (.inr (.inr (.inr (.inr (.inr ⟨rfl,rfl⟩))))),rfl⟩) gN⟩
  .exact h.elim
 .rename_i s t hx aD
  have two: ∀(v:aP) (ay: ∀(K':aY) (ρ:Nat->bn) (I:Nat->Prop) (fi:Act) (w:World),fi.eval x= .string ⟨s.toArray⟩->fi.eval y= .string ⟨t.toArray⟩-> ∃r,(execOp fi.eval o).run P w= .ok (.value r) w/\cw ρ I w v r),bA P N ids o K B v bF:=fun v ay=>
   bA.two hx aD m1 m2 fun K' ρ I fi w ar ae ao=>ay K' ρ I fi w (ar.str ae) (ar.str ao)
  split at h
  .exact⟨_,h.2,two _ fun K' ρ I fi w E G=>⟨_,YI ah E G h.1,rfl⟩⟩
  .exact⟨_,h,two _ fun K' ρ I fi w E G=>⟨_,zs ah E G (.inl ⟨rfl,rfl⟩),rfl⟩⟩
  .exact⟨_,h,two _ fun K' ρ I fi w E G=>⟨_,zs ah E G (.inr (.inl ⟨rfl,rfl⟩)),rfl⟩⟩
  .exact⟨_,h,two _ fun K' ρ I fi w E G=>⟨_,zs ah E G (.inr (.inr (.inl ⟨rfl,rfl⟩))),rfl⟩⟩
  .exact⟨_,h,two _ fun K' ρ I fi w E G=>⟨_,zs ah E G (.inr (.inr (.inr (.inl ⟨rfl,rfl⟩)))),rfl⟩⟩
  .exact⟨_,h,two _ fun K' ρ I fi w E G=>⟨_,zs ah E G (.inr (.inr (.inr (.inr (.inl ⟨rfl,rfl⟩))))),rfl⟩⟩
  .exact⟨_,h,two _ fun K' ρ I fi w E G=>⟨_,zs ah E G (.inr (.inr (.inr (.inr (.inr ⟨rfl,rfl⟩))))),rfl⟩⟩
  .exact h.elim
 .rename_i c d hx aD;obtain⟨e,a6⟩:=ai.resolve_right fun h=>(h c d).1 hx
  have q: ∀(p:Addr) (w:World),(Op.equalIn (9999+1) T (.pointer (some p)) (.pointer none)).run P w= .ok false w:=fun p w=>by
   unfold Op.equalIn;simp[run_underlying a6]
  split at h
  .refine⟨_,h,bA.two hx aD m1 m2 fun K' ρ I fi w ar ae ao=>⟨_,?_,rfl⟩⟩;simp only[execOp,ah,ar.ptr ae,ar.bJ ao];simp[eqGuard,binOp,Op.equal,Op.maxDepth,q]
  .refine⟨_,h,bA.two hx aD m1 m2 fun K' ρ I fi w ar ae ao=>⟨_,?_,rfl⟩⟩;simp only[execOp,ah,ar.ptr ae,ar.bJ ao];simp[eqGuard,binOp,Op.equal,Op.maxDepth,q]
  .exact h.elim
 .rename_i hx aD;obtain⟨e,a6⟩:=ai.resolve_right fun h=>(h 0 0).2 hx
  have q: ∀(w:World),(Op.equalIn (9999+1) T (.pointer none) (.pointer none)).run P w= .ok true w:=fun w=>by
   unfold Op.equalIn;simp[run_underlying a6]
  split at h
  .refine⟨_,h,bA.two hx aD m1 m2 fun K' ρ I fi w ar ae ao=>⟨_,?_,rfl⟩⟩;simp only[execOp,ah,ar.bJ ae,ar.bJ ao];simp[eqGuard,binOp,Op.equal,Op.maxDepth,q]
  .refine⟨_,h,bA.two hx aD m1 m2 fun K' ρ I fi w ar ae ao=>⟨_,?_,rfl⟩⟩;simp only[execOp,ah,ar.bJ ae,ar.bJ ao];simp[eqGuard,binOp,Op.equal,Op.maxDepth,q]
  .exact h.elim
 .exact h.elim
theorem PD {op:BinOp} {T fG:TypeId} {x y:Operand} (ah:o.op= .binOp op T x y fG) (bl: ∀T,zk aS T=true-> ∃e i,P.underlying T=some (.pointer e)/\P.info? e=some i/\i.size≠0)
  (ai: ∃e,P.underlying T=some (.pointer e)) (h:EO aS T op (a2 K x) (a2 K y) k): ∃v,k v bF/\bA P N ids o K B v bF:=by
 have m1:x∈o.op.operands:=by rw[ah];exact zq.1
 have m2:y∈o.op.operands:=by rw[ah];exact zq.2
 unfold EO at h
 split at h
 .rename_i p hx;obtain⟨e,a6⟩:=ai
  have key: ∀(b:Bool) (r:Option Nat),(∀(ρ:Nat->bn) (I:Nat->Prop) (w:World) (v:Value),cw ρ I w (a2 K y) v->v= .pointer (nN r))->(b=true->p=r/\(r=none\/zk aS T=true))->(b=false->(p=none/\r≠none)\/(p≠none/\r=none))->(op= .eql->bA P N ids o K B (.c (.one (.d (.lit b)))) bF)/\(op= .neq->bA P N ids o K B (.c (.one (.d (.lit !b)))) bF):=by
   intro b r aD E G
   have q: ∀(w:World),(Op.equalIn (9999+1) T (.pointer (nN p)) (.pointer (nN r))).run P w= .ok b w:=by
    intro w;unfold Op.equalIn
    cases b with
    |true=>
     obtain⟨rfl,af⟩:=E rfl
     cases p with
     |none=>simp[run_underlying a6,nN]
     |some p=>
      rcases af with af |af
      .cases af
      .obtain⟨b7,i,cj,cT,eg⟩:=bl T af;rw[a6] at cj;injection cj with cj
       injection cj with cj
       subst cj;simp[run_underlying a6,nN,sizeOf,typeInfo,cT,eg,sameAddr]
    |false=>
     rcases G rfl with⟨rfl,af⟩ |⟨af,rfl⟩
     .cases r with
      |none=>exact absurd rfl af
      |some r=>simp[run_underlying a6,nN]
     .cases p with
      |none=>exact absurd rfl af
      |some p=>simp[run_underlying a6,nN]
   refine⟨fun ae=>?_,fun ae=>?_⟩
   .subst ae;refine bA.val fun K' B' g1 g2 C ρ F a w aj ar=>⟨.bool b,?_,rfl⟩
    have ae:a.eval x= .pointer (nN p):=ar.ev ((g1 x m1).trans hx);have ao:a.eval y= .pointer (nN r):=aD _ _ _ _ (ar.ev (g1 y m2));simp only[execOp,ah,ae,ao];simp[eqGuard,binOp,Op.equal,Op.maxDepth,q]
   .subst ae;refine bA.val fun K' B' g1 g2 C ρ F a w aj ar=>⟨.bool !b,?_,rfl⟩
    have ae:a.eval x= .pointer (nN p):=ar.ev ((g1 x m1).trans hx);have ao:a.eval y= .pointer (nN r):=aD _ _ _ _ (ar.ev (g1 y m2));simp only[execOp,ah,ae,ao];simp[eqGuard,binOp,Op.equal,Op.maxDepth,q]
  have two: ∀(f:Bool->Prop),EN aS T p (a2 K y) f-> ∃b,f b/\(op= .eql->bA P N ids o K B (.c (.one (.d (.lit b)))) bF)/\(op= .neq->bA P N ids o K B (.c (.one (.d (.lit !b)))) bF):=by
   intro f h;unfold EN at h
   split at h
   .rename_i aD;have d': ∀(ρ:Nat->bn) (I:Nat->Prop) (w:World) (v:Value),cw ρ I w (a2 K y) v->v= .pointer (nN none):=fun ρ I w v ay=>by rw[aD] at ay;exact ay
    cases ai:p with
    |some b=>exact⟨_,h.1 b ai,by
      have:=key false none d' (fun e=>by cases e) (fun _=>.inr ⟨by simp[ai],rfl⟩);exact this⟩
    |none=>exact⟨_,h.2 ai,key true none d' (fun _=>⟨ai,.inl rfl⟩) (fun e=>by cases e)⟩
   .rename_i r aD;have d': ∀(ρ:Nat->bn) (I:Nat->Prop) (w:World) (v:Value),cw ρ I w (a2 K y) v->v= .pointer (nN r):=fun ρ I w v ay=>by rw[aD] at ay;exact ay
    split at h
    .have a1:zk aS T=true:=by assumption
     obtain⟨rfl,h⟩:=h;exact⟨_,h,key _ _ d' (fun _=>⟨rfl,.inr a1⟩) (fun e=>by cases e)⟩
    .exact h.elim
   .exact h.elim
  split at h
  .obtain⟨b,E,G,_⟩:=two _ h;exact⟨_,E,G rfl⟩
  .obtain⟨b,E,_,G⟩:=two _ h;exact⟨_,E,G rfl⟩
  .exact h.elim
 .exact PB ah (.inl ai) h
theorem PE {op:BinOp} {T fG:TypeId} {x y:Operand} (ah:o.op= .binOp op T x y fG) (a6:P.underlying T=some .bool) {a:Bool} (hx:a2 K x= .c (.one (.d (.bool a)))\/a2 K x= .c (.one (.d (.lit a))))
  (h:EQ op a (a2 K y) k): ∃v,k v bF/\bA P N ids o K B v bF:=by
 have m1:x∈o.op.operands:=by rw[ah];exact zq.1
 have m2:y∈o.op.operands:=by rw[ah];exact zq.2
 have q: ∀(a b:Bool) (w:World),(Op.equalIn (9999+1) T (.bool a) (.bool b)).run P w= .ok (a == b) w:=fun a b w=>by
  unfold Op.equalIn;simp[run_underlying a6]
 have key: ∀(b:Bool) (r:Bool),(a2 K y= .c (.one (.d (.bool b)))\/a2 K y= .c (.one (.d (.lit b))))->(op= .eql/\r=(a == b))\/(op= .neq/\r= !(a == b))->bA P N ids o K B (.c (.one (.d (.bool r)))) bF:=fun b r aD ax=>
  bA.val fun K' B' E G C ρ F fi w aj ar=>by
   have ex:fi.eval x= .bool a:=by
    have:=ar.get x;rw[E x m1] at this;rcases hx with hx |hx <;>(rw[hx] at this;exact this)
   have Jo:fi.eval y= .bool b:=by
    have:=ar.get y;rw[E y m2] at this;rcases aD with aD |aD <;>(rw[aD] at this;exact this)
   refine⟨.bool r,?_,rfl⟩;rcases ax with⟨rfl,rfl⟩ |⟨rfl,rfl⟩ <;>(simp only[execOp,ah,ex,Jo];simp[eqGuard,binOp,Op.equal,Op.maxDepth,q])
 unfold EQ at h
 split at h
 .exact⟨_,h,key _ _ (.inl ‹_›) (.inl ⟨rfl,rfl⟩)⟩
 .exact⟨_,h,key _ _ (.inr ‹_›) (.inl ⟨rfl,rfl⟩)⟩
 .exact⟨_,h,key _ _ (.inl ‹_›) (.inr ⟨rfl,rfl⟩)⟩
 .exact⟨_,h,key _ _ (.inr ‹_›) (.inr ⟨rfl,rfl⟩)⟩
 .exact h.elim
end
end
section
section
variable {ρ:Nat->bn} {I:Nat->Prop} {w:World}
theorem cc.length: ∀(l:List bB) (aE:List Value),cc ρ I w l aE->aE.length=l.length
 | [],_,h=>by rw[show _=[] from h];rfl
 |s::l,_,⟨v,r,e,E,G⟩=>by rw[e,at8,at8,cc.length l r G]
theorem cc.get: ∀(l:List bB) (aE:List Value),cc ρ I w l aE-> ∀(i:Nat) (s:bB),l[i]? =some s-> ∃v,aE[i]? =some v/\dY ρ I w s v
 | [],_,h,i,s,aw=>by simp at aw
 |t::l,_,⟨v,r,e,E,G⟩,0,s,aw=>by
  simp only[ar3,aq4] at aw;subst aw e;exact⟨v,rfl,E⟩
 |t::l,_,⟨v,r,e,E,G⟩,i+1,s,aw=>by
  subst e;simpa using cc.get l r G i s (by simpa using aw)
theorem cc.uq: ∀(l m:List bB) (aE us:List Value),cc ρ I w l aE->cc ρ I w m us->cc ρ I w (l++m) (aE++us)
 | [],m,_,us,h,h'=>by rw[show _=[] from h];exact h'
 |s::l,m,_,us,⟨v,r,e,E,G⟩,h'=>⟨v,r++us,by rw[e];rfl,E,cc.uq l m r us G h'⟩
theorem cc.E1: ∀(n:Nat) (l:List bB) (aE:List Value),cc ρ I w l aE->cc ρ I w (l.take n) (aE.take n)
 |0,_,_,_=>rfl
 |n+1,[],_,h=>by rw[show _=[] from h];rfl
 |n+1,s::l,_,⟨v,r,e,E,G⟩=>⟨v,r.take n,by rw[e];rfl,E,cc.E1 n l r G⟩
theorem cc.nT: ∀(n:Nat) (l:List bB) (aE:List Value),cc ρ I w l aE->cc ρ I w (l.drop n) (aE.drop n)
 |0,_,_,h=>h
 |n+1,[],_,h=>by rw[show _=[] from h];rfl
 |n+1,s::l,_,⟨v,r,e,E,G⟩=>by rw[e];exact cc.nT n l r G
theorem cc.splice {l cs:List bB} {aE us:List Value} {o:Nat} (h:cc ρ I w l aE) (h':cc ρ I w cs us):cc ρ I w (BE l o cs) (aE.take o++us++aE.drop (o+us.length)):=by
 unfold BE;rw[cc.length cs us h'];exact cc.uq _ _ _ _ (cc.uq _ _ _ _ (cc.E1 _ _ _ h) h') (cc.nT _ _ _ h)
theorem ok_one {s:bB} {v:Value} (h:s.ok=true) (ay:dY ρ I w s v):v.oneCell'=true:=by
 cases s with
 |d x=>
  cases x with
  |co u xs=>obtain⟨A,cap,e,_⟩:=ay;injection e with e;rw[e];rfl
  |dm y=>rw[show v=q1 y from ay];rcases y with _ |⟨b,n,c⟩ <;>rfl
  |fn y=>rw[show v=mA y from ay];rfl
  |_=>rw[show v=_ from ay];rfl
 |ptr c o=>rw[show v=_ from ay];rfl
 |own c=>rw[show v=_ from ay];rfl
 |el u x o=>obtain⟨b,p,e,_⟩:=ay;rw[e];rfl
 |gc c s i o=>rw[show v=_ from ay];rfl
 |os c s o n=>rw[show v=_ from ay];rfl
 |mp c=>rw[show v=_ from ay];rfl
 |cY f l=>obtain⟨aE,e,_⟩:=ay;rw[e];rfl
 |dK=>rw[show v=_ from ay];rfl
 |bJ u=>
  rw[show v=u from ay]
  cases u <;>first |rfl |(simp[bB.ok] at h)
 |any=>simp[bB.ok] at h
theorem PF: ∀{l:List bB} {aE:List Value},EG l=true->cc ρ I w l aE-> ∀u∈aE,u.oneCell'=true
 | [],_,_,ay,u,a6=>by rw[show _=[] from ay] at a6;cases a6
 |s::l,_,h,⟨v,r,e,E,G⟩,u,a6=>by
  simp only[EG,vj] at h;subst e;rcases aq5.1 a6 with rfl |a6
  .exact ok_one h.1 E
  .exact PF h.2 G u a6
theorem Jp {pw:aP} {l:List bB} {v:Value} (h:vQ pw=some l) (ay:cw ρ I w pw v): ∃aE,v.cells=List.toArray aE/\cc ρ I w l aE/\ ∀u∈aE,u.oneCell'=true:=by
 unfold vQ at h
 split at h
 .split at h
  .rename_i s aw;injection h with h
   subst h;have E:=ok_one aw ay;refine⟨[v],?_,⟨v,[],rfl,ay,rfl⟩,fun u a6=>by simp at a6;rw[a6];exact E⟩
   cases v <;>first |rfl |(simp[Value.oneCell'] at E)
  .cases h
 .split at h
  .rename_i l' ak;injection h with h
   subst h;obtain⟨aE,e,G⟩:=ay;exact⟨aE,by rw[e];rfl,G,PF ak G⟩
  .cases h
 .cases h
end
def da {α:Type} (f:Nat->α) (c:Nat) (x:α):Nat->α:=fun d=>if d=c then x else f d
theorem c7 {α:Type} (f:Nat->α) (c:Nat) (x:α):da f c x c=x:=if_pos rfl
theorem dh {α:Type} (f:Nat->α) {c d:Nat} (x:α) (h:d≠c):da f c x d=f d:=if_neg h
theorem PG {c:Nat}: ∀{K:aY},ui c K=true-> ∀s,(dI K s).has c=false
 | [],_,s=>rfl
 |(t,v)::K,h,s=>by
  simp only[ui,vj,Bool.not_eq_true'] at h;rw[kD]
  split
  .exact h.1
  .exact PG h.2 s
theorem ur {c:Nat}: ∀{B:az},kF c B=true->ag B c=none/\ ∀d ch,ag B d=some ch->ch.has c=false
 | [],_=>⟨rfl,fun d ch h=>by cases h⟩
 |(t,v)::B,h=>by
  simp only[kF,vj,Bool.not_eq_true'] at h;obtain⟨E,G⟩:=ur h.2;have a7:t≠c:=fun e=>by subst e;simp at h
  refine⟨by rw[cd,if_neg a7];exact E,fun d ch H=>?_⟩;rw[cd] at H
  split at H
  .injection H with H;subst H;exact h.1.2
  .exact G d ch H
theorem k4 {ids:aC4} {K:aY} {B:az} {c:Nat} (h:g6 ids K B c=true):(∀s,(dI K s).has c=false)/\ag B c=none/\(∀d ch,ag B d=some ch->ch.has c=false)/\c∉ids:=by
 simp only[g6,vj,Bool.not_eq_true'] at h;obtain⟨G,af⟩:=ur h.1.2;exact⟨PG h.1.1,G,af,by simpa using h.2⟩
section
variable {P:Program} {aS:dg} {N:Nat} {ids:aC4} {o:Oper} {K:aY} {B:az} {C:fg} {ρ:Nat->bn} {F:Nat->Nat->Prop} {w w':World}
theorem Mem.make (h:Mem ids C B ρ F w) {c:Nat} {ch:ba} (hf:g6 ids K B c=true) (O:Below w.heap.size w w') (pl:bn) (ce:Nat->Prop) (k5: ∀b,ce b->w.heap.size<=b/\b < w'.heap.size)
  (cZ: ∀I,cm (bX C B F w) w I w'->(∀b,I b->b < w'.heap.size/\ ¬ce b)->Holds (da ρ c pl) I ce w' pl ch):
  Mem ids C ((c,ch)::B) (da ρ c pl) (da F c ce) w'/\cm (bX C B F w) w (bX C ((c,ch)::B) (da F c ce) w') w':=by
 obtain⟨ib,jC,f3,px⟩:=k4 hf;refine h.step (fun d=>d=c) (fun d=>d=c) (cS.pq O) ?_ (fun d H=>dh _ _ H) (fun d H=>dh _ _ H) (fun d H e=>px (e▸H)) (fun _ h=>h) ?_ ?_ ?_ ?_
 .intro d ch' H a7;rw[cd,if_neg (fun e=>a7 e.symm)] at H;exact H
 .rintro d ch' H _ e U rfl;rw[f3 d ch' H] at U
  cases U
 .rintro d ch' H rfl U;rw[cd,if_pos rfl] at H;injection H with H
  subst H;rw[c7,c7];exact cZ _ U fun b dp=>⟨dp.1,fun aZ=>dp.2.2 d ch aA1 (by rw[c7];exact aZ)⟩
 .rintro d ch' H rfl b aZ;rw[c7] at aZ;exact⟨(k5 b aZ).2,.inr (k5 b aZ).1⟩
 .rintro d c3 i4 oR b _ _ rfl rfl a7;exact absurd rfl a7
theorem Mem.hI (h:Mem ids C B ρ F w) {c:Nat} {cz ch:ba} (J:ag B c=some cz) (cy:cS (F c) w w')
  (cZ: ∀I,cm (bX C B F w) w I w'->Holds ρ I (F c) w' (ρ c) ch):
  Mem ids C ((c,ch)::B) ρ F w'/\cm (bX C B F w) w (bX C ((c,ch)::B) F w') w':=by
 refine h.step (fun d=>d=c) (fun _=>False) (cy.mono fun b _ O=>⟨c,cz,J,rfl,O⟩) ?_ (fun _ _=>rfl) (fun _ _=>rfl) (fun _ _ h=>h) (fun _ h=>h.elim) (fun _ _ _ _ _ _ h=>h) ?_ ?_ ?_
 .intro d ch' H a7;rw[cd,if_neg (fun e=>a7 e.symm)] at H;exact H
 .rintro d ch' H rfl U;rw[cd,if_pos rfl] at H;injection H with H
  subst H;exact cZ _ U
 .rintro d ch' H rfl b O;exact⟨ar6 (h.own d cz J b O).1 cy.size,.inl ⟨d,cz,J,rfl,O⟩⟩
 .rintro d c3 i4 oR b _ _ rfl rfl a7;exact absurd rfl a7
theorem bA.make {c:Nat} {ch:ba} {v:aP} {jg:aC4} (ay: ∀d,v.has d=true->d=c)
  (h: ∀(K':aY) (B':az),(∀x,x∈o.op.operands->a2 K' x=a2 K x)->(∀c,c∈jg->ag B' c=ag B c)-> ∀(C:fg) (ρ:Nat->bn) (F:Nat->Nat->Prop) (a:Act) (w:World),Mem ids C B' ρ F w->eq K' ρ (bX C B' F w) a w->
   (∀s,(dI K' s).has c=false)-> ∃x w' pl ce,(execOp a.eval o).run P w= .ok (.value x) w'/\Below w.heap.size w w'/\(∀b,ce b->w.heap.size<=b/\b < w'.heap.size)/\
    (∀I,cm (bX C B' F w) w I w'->(∀b,I b->b < w'.heap.size/\ ¬ce b)->Holds (da ρ c pl) I ce w' pl ch/\cw (da ρ c pl) I w' v x)):
  bA P N ids o K B v ⟨jg,[c],[(c,some ch)]⟩:=by
 rintro K' B' E G af C a w ⟨hn,H,ρ,F,aj,ar⟩ bt fJ Q cV;have hf:=af c ay6;have cy:=k4 hf;obtain⟨x,w',pl,ce,hx,O,k5,cZ⟩:=h K' B' E G C ρ F a w aj ar cy.1;obtain⟨bI,U⟩:=aj.make hf O pl ce k5 fun I ae ao=>(cZ I ae ao).1
 unfold Oper.wp;rw[hx,Oper.upon_value];refine cV _ _ ⟨ki.trans hn,kj.trans H,da ρ c pl,da F c ce,bI,(ar.mono U fun s d H=>dh _ _ (fun e=>by subst e;rw[cy.1 s] at H;cases H)).kk (fun e U=>by rw[hn];exact bt e U) ?_⟩;exact(cZ _ U fun b dp=>⟨dp.1,fun aZ=>dp.2.2 c ch aA1 (by rw[c7];exact aZ)⟩).2
theorem bA.hI {c:Nat} {cz ch:ba} (J:ag B c=some cz)
  (h: ∀(K':aY) (B':az),(∀x,x∈o.op.operands->a2 K' x=a2 K x)-> ∀(C:fg) (ρ:Nat->bn) (F:Nat->Nat->Prop) (a:Act) (w:World),Mem ids C B' ρ F w->eq K' ρ (bX C B' F w) a w->ag B' c=some cz-> ∃w',(execOp a.eval o).run P w= .ok .skip w'/\cS (F c) w w'/\
   (∀I,cm (bX C B' F w) w I w'->Holds ρ I (F c) w' (ρ c) ch)):
  bA P N ids o K B .undef ⟨[c],[],[(c,some ch)]⟩:=by
 rintro K' B' E G - C a w ⟨hn,H,ρ,F,aj,ar⟩ bt fJ Q cV;have cK:ag B' c=some cz:=(G c ay6).trans J;obtain⟨w',hx,cy,cZ⟩:=h K' B' E C ρ F a w aj ar cK;obtain⟨bI,U⟩:=aj.hI cK cy cZ;unfold Oper.wp;rw[hx,Oper.upon_skip];exact cV _ _ ⟨ki.trans hn,kj.trans H,ρ,F,bI,(ar.mono U fun _ _ _=>rfl).kk (fun e U=>by rw[hn];exact bt e U) rfl⟩
theorem PH {T:TypeId} {p:Addr} {v:Value} {d:TypeDesc} (a6:P.underlying T=some d) (H:d.isRow=false) (J:w.cell? p=some v):(loadVar T p).run P w= .ok v w:=by
 cases d <;>first |(simp[TypeDesc.isRow] at H;done) |simp[loadVar,isAgg,run_underlying a6,go_sem,J]
theorem E2 {ev:Operand->Value} {T:TypeId} {x:Operand} {p:Addr} {v:Value} {d:TypeDesc} (ah:o.op= .load T x) (E:ev x= .pointer (some p)) (a6:P.underlying T=some d) (H:d.isRow=false) (J:w.cell? p=some v):(execOp ev o).run P w= .ok (.value v) w:=by
 unfold execOp;simp only[ah,E,Instr.loadAt,Instr.sureAddr,Sem.run_bind,Sem.run_pure,Result.andThen_ok,PH a6 H J]
theorem E3 {ev:Operand->Value} {T:TypeId} {x:Operand} {b p:Nat} {cs:List Value} {d:TypeDesc} {i:TypeInfo} (ah:o.op= .load T x) (E:ev x= .pointer (some ⟨b,p,none⟩)) (a6:P.underlying T=some d) (H:d.isRow=true) (aF:P.info? T=some i) (ak:i.size=cs.length)
  (J: ∀(j:Nat) (u:Value),cs[j]? =some u->w.cell? ⟨b,p+j,none⟩=some u):(execOp ev o).run P w= .ok (.value (.agg cs.toArray)) w:=by
 unfold execOp;simp only[ah,E,Instr.loadAt,Instr.sureAddr,Sem.run_bind,Sem.run_pure,Result.andThen_ok,run_loadVar_mid w b p T cs d J a6 H (by rw[aF,av4,ak])]
theorem oS {b:Nat} {aE:List Value} {T:Nat} (h:w.heap[b]? =some (.cells (List.toArray aE) T (0,0))) {j:Nat} {v:Value} (V:aE[j]? =some v):w.cell? ⟨b,j,none⟩=some v:=by
 simp[World.cell?,h,V]
theorem BN {ev:Operand->Value} {T:TypeId} {x y:Operand} {b p:Nat} {aE us:List Value} {bz:Nat} {i:TypeInfo} (ah:o.op= .store T x y) (E:ev x= .pointer (some ⟨b,p,none⟩)) (aD:(ev y).cells=List.toArray us) (aF:P.info? T=some i) (ak:i.size=us.length)
  (O:w.heap[b]? =some (.cells (List.toArray aE) bz (0,0))) (kl:p+us.length<=aE.length) (sf: ∀u∈us,u.oneCell'=true):
  (execOp ev o).run P w= .ok .skip (w.setRow b (aE.take p++us++aE.drop (p+us.length)).toArray):=by
 have aw:=run_storeCells_at (P:=P) b p bz us 0 (List.toArray aE) w O (by simpa using kl) sf;simp only[aw3,List.toList_toArray] at aw;have aN:(ev y).cells.size=i.size:=by rw[aD,ak];simp
 unfold execOp;simp[ah,E,Instr.storeAt,Instr.sureAddr,storeVar,sizeOf,typeInfo,aF,aD,ak,aw]
end
end
section
section
variable {P:Program} {aS:dg} {N:Nat} {ids:aC4} {o:Oper} {K:aY} {B:az} {k:aP->fP->Prop}
def cH (P:Program) (N:Nat) (ids:aC4) (o:Oper) (K:aY) (B:az) (k:aP->fP->Prop):Prop:= ∃v e,k v e/\bA P N ids o K B v e/\ ∀c,c∈e.bb->g6 ids K B c=true
theorem cH.of {v:aP} {jg:aC4} {iH:List (Nat×Option ba)} (h:k v ⟨jg,[],iH⟩) (ap:bA P N ids o K B v ⟨jg,[],iH⟩):cH P N ids o K B k:=⟨_,_,h,ap,fun c J=>by cases J⟩
theorem cH.bb {v:aP} {jg:aC4} {d:Nat} {iH:List (Nat×Option ba)} (h:k v ⟨jg,[d],iH⟩) (hf:g6 ids K B d=true) (ap:bA P N ids o K B v ⟨jg,[d],iH⟩):cH P N ids o K B k:=⟨_,_,h,ap,fun c J=>by simp at J;rw[J];exact hf⟩
theorem PI {x:Operand} (ah:o.op= .move x\/o.op= .assign x) (h:oN (a2 K x) fun v=>k v bF):cH P N ids o K B k:=by
 rw[sd] at h;refine cH.of h <| bA.one rfl (by rcases ah with ah |ah <;>rw[ah] <;>simp[Op.operands]) fun K' ρ I a w ar e=>⟨_,?_,ar.ev e⟩
 rcases ah with ah |ah <;>simp[execOp,ah]
theorem YK {c x y:Operand} (ah:o.op= .pick c x y) (h:match a2 K c with
  | .c (.one (.d (.lit true)))=>oN (a2 K x) fun v=>k v bF
  | .c (.one (.d (.lit false)))=>oN (a2 K y) fun v=>k v bF
  |_=>False):cH P N ids o K B k:=by
 have m1:c∈o.op.operands:=az1
 have m2:x∈o.op.operands:=az1
 have m3:y∈o.op.operands:=az1
 split at h
 .rename_i J;rw[sd] at h;exact cH.of h <| bA.two J rfl m1 m2 fun K' ρ I a w ar ae ao=>⟨_,by simp[execOp,ah,ar.lit ae,asBool],ar.ev ao⟩
 .rename_i J;rw[sd] at h;exact cH.of h <| bA.two J rfl m1 m3 fun K' ρ I a w ar ae ao=>⟨_,by simp[execOp,ah,ar.lit ae,asBool],ar.ev ao⟩
 .exact h.elim
theorem YL {T:TypeId} {x:Operand} (ah:o.op= .unOp .not T x) (h:match a2 K x with
  | .c (.one (.d (.lit true)))=>k (.c (.one (.d (.lit false)))) bF
  | .c (.one (.d (.lit false)))=>k (.c (.one (.d (.lit true)))) bF
  | .c (.one (.d (.bool b)))=>k (.c (.one (.d (.bool (!b))))) bF
  |_=>False):cH P N ids o K B k:=by
 have m1:x∈o.op.operands:=az1
 split at h
 .rename_i J;exact cH.of h <| bA.one J m1 fun K' ρ I a w ar ae=>⟨_,by simp[execOp,ah,ar.lit ae,Op.unary],rfl⟩
 .rename_i J;exact cH.of h <| bA.one J m1 fun K' ρ I a w ar ae=>⟨_,by simp[execOp,ah,ar.lit ae,Op.unary],rfl⟩
 .rename_i b J;exact cH.of h <| bA.one J m1 fun K' ρ I a w ar ae=>⟨_,by simp[execOp,ah,ar.bool ae,Op.unary],rfl⟩
 .exact h.elim
theorem iU.get {ρ:Nat->bn} {I:Nat->Prop} {w:World}: ∀(l:List dP) (aE:List Value),iU ρ I w l aE-> ∀(i:Nat) (s:dP),l[i]? =some s-> ∃v,aE[i]? =some v/\gC ρ I w s v
 | [],_,h,i,s,aw=>by simp at aw
 |t::l,_,⟨v,r,e,E,G⟩,0,s,aw=>by
  simp only[ar3,aq4] at aw;subst aw e;exact⟨v,rfl,E⟩
 |t::l,_,⟨v,r,e,E,G⟩,i+1,s,aw=>by
  subst e;simpa using iU.get l r G i s (by simpa using aw)
theorem YM {x:Operand} {i:Nat} (ah:o.op= .extract x i) (h:match a2 K x with
  | .ci l=>match l[i]? with
   |some v=>k (.c v) bF
   |none=>False
  |_=>False):cH P N ids o K B k:=by
 have m1:x∈o.op.operands:=az1
 split at h
 .rename_i l ak
  split at h
  .rename_i v ay;refine cH.of h <| bA.one ak m1 fun K' ρ I a w ar ae=>?_
   obtain⟨aE,e,G⟩:=ar.ev ae;obtain⟨u,a6,af⟩:=iU.get l aE G i v ay;exact⟨u,by simp[execOp,ah,e,Instr.extract,a6],af⟩
  .exact h.elim
 .exact h.elim
theorem YN {x:Operand} (ah:o.op= .nilCheck x) (h:match a2 K x with
  | .c (.one (.ptr c o))=>k (.c (.one (.ptr c o))) bF
  | .c (.one (.el u y o))=>k (.c (.one (.el u y o))) bF
  | .c (.one (.gc c s i o))=>k (.c (.one (.gc c s i o))) bF
  |_=>False):cH P N ids o K B k:=by
 have m1:x∈o.op.operands:=az1
 split at h
 .rename_i c p J;exact cH.of h <| bA.one J m1 fun K' ρ I a w ar ae=>⟨_,by simp[execOp,ah,ar.ptr ae],rfl⟩
 .rename_i u y p J;refine cH.of h <| bA.one J m1 fun K' ρ I a w ar ae=>⟨a.eval x,?_,ar.ev ae⟩
  obtain⟨b,q,e,_⟩:=ar.ev ae;simp[execOp,ah,e]
 .rename_i c s i p J;exact cH.of h <| bA.one J m1 fun K' ρ I a w ar ae=>⟨_,by simp[execOp,ah,ar.gc ae],rfl⟩
 .exact h.elim
theorem E4 {ev:Operand->Value} {T:TypeId} {x:Operand} {f g off d:Nat} {w:World} {fs:Array Field} {j0:Field} {i:TypeInfo} (E:ev x= .pointer (some ⟨g,off,none⟩)) (ah:o.op= .fieldAddr T x f)
  (b6:P.underlying T=some (.struct fs)) (ut:fs[f]? =some j0) (H:j0.offset=d) (aF:P.info? j0.type=some i) (cC:i.size≠0):(execOp ev o).run P w= .ok (.value (.pointer (some ⟨g,off+d,none⟩))) w:=by
 subst H;simp[execOp,ah,E,Instr.fieldAt,run_underlying b6,ut,Instr.sureAddr,fieldPlace,sizeOf,typeInfo,aF,cC,pr]
theorem YO (bl:ec P aS) {T:TypeId} {x:Operand} {f:Nat} (ah:o.op= .fieldAddr T x f) (h:match I2 aS T f with
  |some (d,_)=>match a2 K x with
   | .c (.one (.ptr c o))=>k (.c (.one (.ptr c (o+d)))) bF
   | .c (.one (.el u y o))=>k (.c (.one (.el u y (o+d)))) bF
   | .c (.one (.gc c s i o))=>k (.c (.one (.gc c s i (o+d)))) bF
   |_=>False
  |none=>False):cH P N ids o K B k:=by
 have m1:x∈o.op.operands:=az1
 split at h
 .rename_i d n H
  have⟨fs,j0,i,b6,ut,Jq,aF,aN⟩: ∃fs j0 i,P.underlying T=some (.struct fs)/\fs[f]? =some j0/\j0.offset=d/\P.info? j0.type=some i/\i.size≠0:=by
   unfold I2 at H
   split at H
   .rename_i ti gD
    split at H
    .rename_i aa;obtain⟨i,tl,bv⟩:=bl.at_ gD;obtain⟨fs,a6,rfl⟩:=bv.st aa;obtain⟨j0,PJ,E,G,af,aW,bG⟩:=Py _ _ (bv.mE fs rfl) f d n H;exact⟨fs,j0,PJ,a6,by simpa using E,G,af,by rw[aW];exact bG⟩
    .cases H
   .cases H
  split at h
  .rename_i c p J;exact cH.of h <| bA.one J m1 fun K' ρ I a w ar ae=>⟨_,E4 (ar.ptr ae) ah b6 ut Jq aF aN,rfl⟩
  .rename_i u y p J;refine cH.of h <| bA.one J m1 fun K' ρ I a w ar ae=>?_
   obtain⟨b,q,e,G⟩:=ar.ev ae;exact⟨_,E4 e ah b6 ut Jq aF aN,b,q,by rw[Nat.add_assoc],G⟩
  .rename_i c s j p J;exact cH.of h <| bA.one J m1 fun K' ρ I a w ar ae=>⟨_,E4 (ar.gc ae) ah b6 ut Jq aF aN,by simp only[cw,gC,dY];rw[Nat.add_assoc]⟩
  .exact h.elim
 .exact h.elim
theorem E5 {ρ:Nat->bn} {I:Nat->Prop} {w:World} {u:bz} {y:Z u} {c:Nat->Option Value} (aD:cu I w u y c): ∀(n p:Nat),p+n<=aQ u-> ∃aE,cc ρ I w (gq u y p n) aE/\ ∀(j:Nat) (v:Value),aE[j]? =some v->c (p+j)=some v
 |0,p,_=>⟨[],rfl,fun j v h=>by simp at h⟩
 |n+1,p,h=>by
  obtain⟨v,E,G⟩:=cu.cell u y c p aD ay4;obtain⟨aE,af,aW⟩:=E5 aD n (p+1) ay4;refine⟨v::aE,⟨v,aE,rfl,G,af⟩,fun j df V=>?_⟩
  match j with
  |0=>simp only[ar3,aq4] at V;subst V;exact E
  |j+1=>rw[show p+(j+1)=p+1+j by omega];exact aW j df aA5
theorem tm (u:bz) (y:Z u): ∀(n p:Nat),(gq u y p n).length=n
 |0,_=>rfl
 |n+1,p=>by simp[gq,tm u y n]
theorem zt (u:bz) (y:Z u): ∀(n p i:Nat),i < n->(gq u y p n)[i]? =some (.d (fD u y (p+i)))
 |0,p,i,h=>by omega
 |n+1,p,0,h=>rfl
 |n+1,p,i+1,h=>by
  have:=zt u y n (p+1) i ay4;rw[show p+1+i=p+(i+1) by omega] at this;simpa[gq] using this
theorem BO {ρ:Nat->bn} {I:Nat->Prop} {w:World} {u:bz} {y:Z u} (hw:oK u y) {aE:List Value} (h:cc ρ I w (gq u y 0 (aQ u)) aE):cu I w u y (fun j=>aE[j]?):=
 cu.mk u y _ hw fun j V=>by
  have aZ:=zt u y (aQ u) 0 j V;rw[au1] at aZ;obtain⟨v,ae,ao⟩:=cc.get _ _ h j _ aZ;exact⟨v,ae,ao⟩
theorem E6 {T:TypeId} {x:Operand} (ah:o.op= .load T x) {ti:ca} {i:TypeInfo} {d:TypeDesc} (bv:l8 P T ti i d) {u:bz} {y:Z u} {p:Nat} {a:Act} {w:World} {I:Nat->Prop} {ρ:Nat->bn} {b q:Nat}
  (U:a.eval x= .pointer (some ⟨b,q+p,none⟩)) (aD:cu I w u y (fun j=>w.cell? ⟨b,q+j,none⟩)):
  (ti.row=true->p+ti.size<=aQ u-> ∃r,(execOp a.eval o).run P w= .ok (.value r) w/\cw ρ I w (.c (.agg (gq u y p ti.size))) r)/\
  (ti.row=false->p < aQ u-> ∃r,(execOp a.eval o).run P w= .ok (.value r) w/\cw ρ I w (.c (.one (.d (fD u y p)))) r):=by
 constructor
 .intro ax g8;obtain⟨aE,E,G⟩:=E5 (ρ:=ρ) aD ti.size p g8;refine⟨_,E3 (cs:=aE) ah U bv.nS (bv.row.trans ax) bv.jY (by rw[cc.length _ _ E,tm];exact bv.size) (fun j v V=>?_),aE,rfl,E⟩;rw[Nat.add_assoc];exact G j v V
 .intro ax bt;obtain⟨v,E,G⟩:=cu.cell u y _ p aD bt;exact⟨v,E2 ah U bv.nS (bv.row.trans ax) E,G⟩
theorem YP {ρ:Nat->bn} {I F:Nat->Prop} {w:World} {p:bn} {e:TypeId} {u:bz} {xs:List (Z u)} (h:Holds ρ I F w p (.row e u xs)) {i:Nat} {y:Z u} (aD:fE xs i=some y):
  cu I w u y (fun j=>w.cell? ⟨p.bk,i*aQ u+j,none⟩):=by
 obtain⟨E,G,cs,af,aW⟩:=h;refine cu.mono (cm.refl _ _) u y _ _ (fun j v V=>?_) (aW i y aD);have V:cs[i*aQ u+j]? =some v:=V;have hx:=BA aD;have BP:=af;obtain⟨ak,af⟩:=af;rcases af with⟨_,au⟩ |⟨g,cap,c9,ay,_,aZ,_,_,_,cq⟩
 .omega
 .have O:p.ef.ownBlock=some g:=by rw[ay];rfl
  rw[<-G g O];have:=BP.cells O (i*aQ u+j) v V
  rwa[pr,au1] at this
theorem YQ (bl:ec P aS) {T:TypeId} {x:Operand} (ah:o.op= .load T x) (h:match aS.find T with
  |some ti=>match a2 K x with
   | .c (.one (.ptr c o))=>match ag B c with
    |some (.cells l)=>match ti.row with
     |true=>match Nat.ble (o+ti.size) l.length with
      |true=>pt ((l.drop o).take ti.size) fun l=>k (.c (.agg l)) ⟨[c],[],[]⟩
      |false=>False
     |false=>match l[o]? with
      |some s=>zh s fun s=>k (.c (.one s)) ⟨[c],[],[]⟩
      |none=>False
    |_=>False
   | .c (.one (.el u y o))=>match ti.row with
    |true=>match Nat.ble (o+ti.size) (aQ u) with
     |true=>pt (gq u y o ti.size) fun l=>k (.c (.agg l)) bF
     |false=>False
    |false=>match Nat.blt o (aQ u) with
     |true=>zg (fD u y o) fun x=>k (.c (.one (.d x))) bF
     |false=>False
   | .c (.one (.gc c s i o))=>match ag B c with
    |some (.row _ u xs)=>match Nat.beq s (aQ u) with
     |true=> ∃y,fE xs i=some y/\match ti.row with
      |true=>match Nat.ble (o+ti.size) (aQ u) with
       |true=>pt (gq u y o ti.size) fun l=>k (.c (.agg l)) ⟨[c],[],[]⟩
       |false=>False
      |false=>match Nat.blt o (aQ u) with
       |true=>zg (fD u y o) fun x=>k (.c (.one (.d x))) ⟨[c],[],[]⟩
       |false=>False
     |false=>False
    |_=>False
   |_=>False
  |none=>False):cH P N ids o K B k:=by
 have m1:x∈o.op.operands:=az1
 split at h
 .rename_i ti gD;obtain⟨i,d,bv⟩:=bl.at_ gD
  split at h
  .rename_i c p J
   split at h
   .rename_i l ak
    have key: ∀(K':aY) (B':az),(∀x,x∈o.op.operands->a2 K' x=a2 K x)->(∀d,d∈ [c]->ag B' d=ag B d)-> ∀(C:fg) (ρ:Nat->bn) (F:Nat->Nat->Prop) (a:Act) (w:World),Mem ids C B' ρ F w->eq K' ρ (bX C B' F w) a w->
      a.eval x= .pointer (some ⟨(ρ c).bk,p,none⟩)/\ ∃aE T,w.heap[(ρ c).bk]? =some (.cells (List.toArray aE) T (0,0))/\cc ρ (bX C B' F w) w l aE:=fun K' B' E G C ρ F a w aj ar=>by
     have bf:=aj.holds c _ ((G c ay6).trans ak);exact⟨ar.ptr ((E x m1).trans J),bf.2⟩
    split at h
    .rename_i ax
     split at h
     .rename_i g8;have g8:=aw8 g8;rw[zi] at h;refine cH.of h <| bA.val fun K' B' E G C ρ F a w aj ar=>?_
      obtain⟨ae,aE,eJ,O,H⟩:=key K' B' E G C ρ F a w aj ar;have k6:=cc.E1 ti.size _ _ (cc.nT p _ _ H);refine⟨_,E3 (cs:=(aE.drop p).take ti.size) ah ae bv.nS (bv.row.trans ax) bv.jY ?_ (fun j u V=>?_),_,rfl,k6⟩
      .rw[cc.length _ _ k6,aq9,au9,bv.size];omega
      .rw[au6] at V
       split at V
       .rw[List.getElem?_drop] at V;exact oS O V
       .cases V
     .exact h.elim
    .rename_i ax
     split at h
     .rename_i s aw;rw[IL] at h;refine cH.of h <| bA.val fun K' B' E G C ρ F a w aj ar=>?_
      obtain⟨ae,aE,eJ,O,H⟩:=key K' B' E G C ρ F a w aj ar;obtain⟨v,ay,k6⟩:=cc.get _ _ H p s aw;exact⟨v,E2 ah ae bv.nS (bv.row.trans ax) (oS O ay),k6⟩
     .exact h.elim
   .exact h.elim
  .rename_i u y p J
   split at h
   .rename_i ax
    split at h
    .rename_i g8;rw[zi] at h;refine cH.of h <| bA.one J m1 fun K' ρ I a w ar ae=>?_
     obtain⟨b,q,e,_,aD⟩:=ar.ev ae;exact(E6 ah bv e aD).1 ax (aw8 g8)
    .exact h.elim
   .rename_i ax
    split at h
    .rename_i bt;rw[IK] at h;refine cH.of h <| bA.one J m1 fun K' ρ I a w ar ae=>?_
     obtain⟨b,q,e,_,aD⟩:=ar.ev ae;exact(E6 ah bv e aD).2 ax (by simpa[Nat.blt_eq] using bt)
    .exact h.elim
  .rename_i c s j p J
   split at h
   .rename_i e u xs ak
    split at h
    .rename_i aw;have aw:=aq6 aw;subst aw;obtain⟨y,aD,h⟩:=h
     have key: ∀(K':aY) (B':az),(∀x,x∈o.op.operands->a2 K' x=a2 K x)->(∀d,d∈ [c]->ag B' d=ag B d)-> ∀(C:fg) (ρ:Nat->bn) (F:Nat->Nat->Prop) (a:Act) (w:World),Mem ids C B' ρ F w->eq K' ρ (bX C B' F w) a w->
       a.eval x= .pointer (some ⟨(ρ c).bk,j*aQ u+p,none⟩)/\cu (bX C B' F w) w u y (fun i=>w.cell? ⟨(ρ c).bk,j*aQ u+i,none⟩):=fun K' B' E G C ρ F a w aj ar=>
      ⟨ar.gc ((E x m1).trans J),YP (aj.holds c _ ((G c ay6).trans ak)) aD⟩
     split at h
     .rename_i ax
      split at h
      .rename_i g8;rw[zi] at h;refine cH.of h <| bA.val fun K' B' E G C ρ F a w aj ar=>?_
       obtain⟨ae,ao⟩:=key K' B' E G C ρ F a w aj ar;exact(E6 ah bv ae ao).1 ax (aw8 g8)
      .exact h.elim
     .rename_i ax
      split at h
      .rename_i bt;rw[IK] at h;refine cH.of h <| bA.val fun K' B' E G C ρ F a w aj ar=>?_
       obtain⟨ae,ao⟩:=key K' B' E G C ρ F a w aj ar;exact(E6 ah bv ae ao).2 ax (by simpa[Nat.blt_eq] using bt)
      .exact h.elim
    .exact h.elim
   .exact h.elim
  .exact h.elim
 .exact h.elim
end
end
end Go.Proofs.YtkfbeijmgggkmaaGreat
