/-
A part of the proof of this claim: lemmas, with no condition beyond what each says.
-/
import Derived.Deep.MidRow
import Derived.Test.YtkfbeijmgggkmaaGreatZc2
set_option linter.unusedVariables false
set_option linter.unusedSimpArgs false
set_option maxRecDepth 10000
set_option maxHeartbeats 4000000
namespace Go.Proofs.YtkfbeijmgggkmaaGreat
open Go.RowKit Go.Proofs
section
def tz:Option TypeDesc->Ps->Bool
 |some (.int k),.int d2=>mj k d2
 |some .bool,.bool=>true
 |some .string,.str=>true
 |some (.pointer e),.ptr b6=>Nat.beq e b6
 |some (.slice e),.b4 b6=>Nat.beq e b6
 |some (.struct _),.st=>true
 |some (.array n e),.arr n' b6=>Nat.beq n n'&&Nat.beq e b6
 |some (.map k e),.mp d2 b6=>Nat.beq k d2&&Nat.beq e b6
 |some (.func _ _ _),.other=>true
 |some (.interface _),.other=>true
 |_,_=>false
def JD:Value->bC->Bool
 | .int k n,.d (.int d2 n')=>mj k d2&&decide (n=n')
 | .bool b,.d (.lit ea)=>b == ea
 | .string s,.d (.str l)=>decide (s.data.toList=l)
 | .slice none 0 0,.dH=>true
 | .pointer none,.bM (.pointer none)=>true
 | .map none,.bM (.map none)=>true
 | .nilFunc,.bM .nilFunc=>true
 | .nilIface,.bM .nilIface=>true
 |_,_=>false
def tA:List Value->List bC->Bool
 | [],[]=>true
 |v::aE,s::l=>JD v s&&tA aE l
 |_,_=>false
def rr (P:Program):List Field->List (Nat×Nat)->Bool
 | [],[]=>true
 |f::fs,(d,n)::l=>Nat.beq f.offset d&&(match P.info? f.type with
  |some i=>Nat.beq i.size n
  |none=>false)&& !Nat.beq n 0&&rr P fs l
 |_,_=>false
def PC:Value->Bool->Bool
 | .agg _,false=>false
 |_,_=>true
def JE (P:Program) (T:Nat) (ti:b8):Bool:=match P.info? T,P.underlying T with
 |some i,some d=>Nat.beq i.size ti.size&&Nat.beq i.bytes ti.bytes&&(d.isRow == ti.row)&&tz (some d) ti.kd&&(match i.zero with
  |some aB=>tA aB.cells.toList ti.zero&&PC aB d.isRow
  |none=>false)&&(match d with
  | .struct fs=>rr P fs.toList ti.mP
  |_=>true)&&Nat.ble ti.bytes 32768&&(match ti.u with
  |some u=>Nat.beq (aS u) ti.size
  |none=>true)&& !Nat.beq ti.size 0&&Nat.beq ti.zero.length ti.size
 |_,_=>false
def dl.all (p:Nat->b8->Bool):dl->Bool
 | .leaf=>true
 | .node l k x r=>l.all p&&p k x&&r.all p
theorem dl.JF {p:Nat->b8->Bool}: ∀(t:dl),t.all p=true-> ∀T ti,t.find T=some ti->p T ti=true
 | .leaf,_,T,ti,h=>by simp[dl.find] at h
 | .node l k x r,ha,T,ti,h=>by
  simp only[dl.all,vj] at ha;unfold dl.find at h
  split at h
  .exact dl.JF l ha.1.1 T ti h
  .split at h
   .rename_i e;have:=ar0 e;injection h with h
    subst this h;exact ha.1.2
   .exact dl.JF r ha.2 T ti h
def eh (P:Program) (aU:dl):Prop:= ∀T ti,aU.find T=some ti->JE P T ti=true
theorem eh.of {P:Program} {aU:dl} (h:aU.all (JE P)=true):eh P aU:=dl.JF aU h
theorem nZ {i j:IntKind} (h:mj i j=true):i=j:=by cases i <;>cases j <;>first |rfl |(simp[mj] at h)
structure ml (P:Program) (T:Nat) (ti:b8) (i:TypeInfo) (d:TypeDesc):Prop where
 jW:P.info? T=some i
 n0:P.underlying T=some d
 size:i.size=ti.size
 bytes:i.bytes=ti.bytes
 row:d.isRow=ti.row
 kd:tz (some d) ti.kd=true
 zero: ∃aB,i.zero=some aB/\tA aB.cells.toList ti.zero=true
 mP: ∀fs,d= .struct fs->rr P fs.toList ti.mP=true
 PD:ti.bytes<=32768
 u: ∀u,ti.u=some u->aS u=ti.size
 pos:ti.size≠0
 JG:ti.zero.length=ti.size
 PE: ∀aB,i.zero=some aB->d.isRow=false->aB.cells= #[aB]
theorem eh.at_ {P:Program} {aU:dl} (h:eh P aU) {T:Nat} {ti:b8} (hf:aU.find T=some ti): ∃i d,ml P T ti i d:=by
 have J:=h T ti hf;unfold JE at J
 split at J
 .rename_i i d aG H;simp only[vj,Bool.not_eq_true',beq_iff_eq] at J;obtain⟨⟨⟨⟨⟨⟨⟨⟨⟨E,G⟩,al⟩,aW⟩,bG⟩,fP⟩,ji⟩,gJ⟩,rs⟩,BR⟩:=J;refine⟨i,d,aG,H,ar0 E,ar0 G,al,aW,?_,?_,Nat.le_of_ble_eq_true ji,?_,fun e=>by rw[e] at rs;simp at rs,ar0 BR,?_⟩
  .split at bG
   .rename_i aB aR;exact⟨aB,aR,(vj _ _▸bG).1⟩
   .cases bG
  .rintro fs rfl;exact fP
  .intro u a8;rw[a8] at gJ;exact ar0 gJ
  .intro aB aR aC;rw[aR] at bG;simp only[vj] at bG;have bG:=bG.2;rw[aC] at bG
   cases aB <;>first |rfl |(simp[PC] at bG)
 .cases J
theorem ml.b4 {P:Program} {T:Nat} {ti:b8} {i:TypeInfo} {d:TypeDesc} (h:ml P T ti i d) {e:Nat} (Z:ti.kd= .b4 e):P.underlying T=some (.slice e):=by
 have:=h.kd;rw[Z] at this;rw[h.n0]
 cases d <;>simp[tz] at this⊢
 exact this
theorem ml.str {P:Program} {T:Nat} {ti:b8} {i:TypeInfo} {d:TypeDesc} (h:ml P T ti i d) (Z:ti.kd= .str):P.underlying T=some .string:=by
 have:=h.kd;rw[Z] at this;rw[h.n0]
 cases d <;>simp[tz] at this⊢
theorem ml.int {P:Program} {T:Nat} {ti:b8} {i:TypeInfo} {d:TypeDesc} (h:ml P T ti i d) {k:IntKind} (Z:ti.kd= .int k):P.underlying T=some (.int k):=by
 have:=h.kd;rw[Z] at this;rw[h.n0]
 cases d <;>simp[tz] at this⊢
 exact nZ this
theorem ml.ptr {P:Program} {T:Nat} {ti:b8} {i:TypeInfo} {d:TypeDesc} (h:ml P T ti i d) {e:Nat} (Z:ti.kd= .ptr e):P.underlying T=some (.pointer e):=by
 have:=h.kd;rw[Z] at this;rw[h.n0]
 cases d <;>simp[tz] at this⊢
 exact this
theorem ml.st {P:Program} {T:Nat} {ti:b8} {i:TypeInfo} {d:TypeDesc} (h:ml P T ti i d) (Z:ti.kd= .st): ∃fs,P.underlying T=some (.struct fs)/\d= .struct fs:=by
 have:=h.kd;rw[Z] at this;rw[h.n0]
 cases d <;>simp[tz] at this⊢
theorem PF {P:Program}: ∀(fs:List Field) (l:List (Nat×Nat)),rr P fs l=true-> ∀(f d n:Nat),l[f]? =some (d,n)-> ∃jX i,fs[f]? =some jX/\jX.offset=d/\P.info? jX.type=some i/\i.size=n/\n≠0
 | [],[],_,f,d,n,h=>by simp at h
 |g::fs,(a,b)::l,ag,0,d,n,h=>by
  simp only[rr,vj,Bool.not_eq_true'] at ag;simp only[ar9,aq8,au6] at h;obtain⟨rfl,rfl⟩:=h;obtain⟨⟨⟨E,G⟩,al⟩,_⟩:=ag
  split at G
  .rename_i i aG;exact⟨g,i,rfl,ar0 E,aG,ar0 G,fun e=>by subst e;simp at al⟩
  .cases G
 |g::fs,(a,b)::l,ag,f+1,d,n,h=>by
  simp only[rr,vj] at ag;simpa using PF fs l ag.2 f d n aw9
 | [],_::_,ag,_,_,_,_=>by simp[rr] at ag
 |_::_,[],ag,_,_,_,_=>by simp[rr] at ag
section
variable {P:Program} {aU:dl} {N:Nat} {ids:aA1} {o:Oper} {K:aX} {B:ay}
theorem bB.val {v:aO} {ix:aA1} (h: ∀(K':aX) (B':ay),(∀x,x∈o.op.operands->a7 K' x=a7 K x)->(∀c,c∈ix->aj B' c=aj B c)->
  ∀(C:fi) (ρ:Nat->bo) (F:Nat->Nat->Prop) (a:Act) (w:World),Mem ids C B' ρ F w->ey K' ρ (b5 C B' F w) a w-> ∃x,(execOp a.eval o).run P w= .ok (.value x) w/\cx ρ (b5 C B' F w) w v x):
  bB P N ids o K B v ⟨ix,[],[]⟩:=by
 rintro K' B' E G - C a w ⟨hn,H,ρ,F,ar,au⟩ bx fO Q dq;obtain⟨x,hx,aA⟩:=h K' B' E G C ρ F a w ar au;unfold Oper.wp;rw[hx,Oper.upon_value];exact dq _ _ ⟨kq.trans hn,kr.trans H,ρ,F,ar,au.ku (fun e U=>by rw[hn];exact bx e U) aA⟩
theorem bB.new {v:aO} {ix:aA1} (h: ∀(K':aX) (B':ay),(∀x,x∈o.op.operands->a7 K' x=a7 K x)->(∀c,c∈ix->aj B' c=aj B c)->
  ∀(C:fi) (ρ:Nat->bo) (F:Nat->Nat->Prop) (a:Act) (w:World),Mem ids C B' ρ F w->ey K' ρ (b5 C B' F w) a w-> ∃x w',(execOp a.eval o).run P w= .ok (.value x) w'/\Below w.heap.size w w'/\
   (∀I:Nat->Prop,cj (b5 C B' F w) w I w'->(∀b,w.heap.size<=b->b < w'.heap.size->I b)->cx ρ I w' v x)):
  bB P N ids o K B v ⟨ix,[],[]⟩:=by
 rintro K' B' E G - C a w ⟨hn,H,ρ,F,ar,au⟩ bx fO Q dq;obtain⟨x,w',hx,O,aA⟩:=h K' B' E G C ρ F a w ar au;obtain⟨bP,U⟩:=ar.below O;unfold Oper.wp;rw[hx,Oper.upon_value];refine dq _ _ ⟨kq.trans hn,kr.trans H,ρ,F,bP,(au.mono U fun _ _ _=>rfl).ku (fun e U=>by rw[hn];exact bx e U) (aA _ U fun b E G=>⟨G,?_,fun c ch J bd=>?_⟩)⟩
 .exact .inr (.inr (ar.fresh E))
 .have:=(ar.own c ch J b bd).1;omega
section
variable {K':aX} {ρ:Nat->bo} {I:Nat->Prop} {a:Act} {w:World} {x:Operand}
theorem ey.ev (au:ey K' ρ I a w) {s:aO} (h:a7 K' x=s):cx ρ I w s (a.eval x):=h▸au.get x
theorem ey.int (au:ey K' ρ I a w) {k:IntKind} {n:Int} (h:a7 K' x= .c (.one (.d (.int k n)))):a.eval x= .int k n:=au.ev h
theorem ey.lit (au:ey K' ρ I a w) {b:Bool} (h:a7 K' x= .c (.one (.d (.lit b)))):a.eval x= .bool b:=au.ev h
theorem ey.bool (au:ey K' ρ I a w) {b:Bool} (h:a7 K' x= .c (.one (.d (.bool b)))):a.eval x= .bool b:=au.ev h
theorem ey.str (au:ey K' ρ I a w) {s:aA0} (h:a7 K' x= .c (.one (.d (.str s)))):a.eval x= .string ⟨s.toArray⟩:=au.ev h
theorem ey.ptr (au:ey K' ρ I a w) {c o:Nat} (h:a7 K' x= .c (.one (.ptr c o))):a.eval x= .pointer (some ⟨(ρ c).bh,o,none⟩):=au.ev h
theorem ey.gj (au:ey K' ρ I a w) {c s i o:Nat} (h:a7 K' x= .c (.one (.gj c s i o))):a.eval x= .pointer (some ⟨(ρ c).bh,i*s+o,none⟩):=au.ev h
theorem ey.os (au:ey K' ρ I a w) {c s o n:Nat} (h:a7 K' x= .c (.one (.os c s o n))):a.eval x= .slice (if(ρ c).cap=o then(ρ c).A else(ρ c).A.map (·.add (o*s))) n ((ρ c).cap - o):=au.ev h
theorem ey.bM (au:ey K' ρ I a w) {v:Value} (h:a7 K' x= .c (.one (.bM v))):a.eval x=v:=au.ev h
theorem ey.own (au:ey K' ρ I a w) {c:Nat} (h:a7 K' x= .c (.one (.own c))):a.eval x=(ρ c).eK:=au.ev h
theorem ey.dH (au:ey K' ρ I a w) (h:a7 K' x= .c (.one .dH)):a.eval x= .slice none 0 0:=au.ev h
theorem ey.cf (au:ey K' ρ I a w) {u:bA} {xs:List (aa u)} (h:a7 K' x= .c (.one (.d (.cf u xs)))):cq I w (.b4 u) xs (fun _=>some (a.eval x)):=au.ev h
end
theorem xA {k:IntKind} {n:Int} (h:uu k n):k.wrap n=n:=by
 cases k <;>simp only[uu] at h <;>simp[IntKind.wrap,IntKind.bits,IntKind.signed] <;>omega
theorem zI {x y:Operand} {op:BinOp} {T fQ:TypeId}:x∈(Op.binOp op T x y fQ).operands/\y∈(Op.binOp op T x y fQ).operands:=by simp[Op.operands]
theorem toList_mk (l:aA0):(⟨l.toArray⟩:ByteArray).toList=l:=by rw[ByteArray.toList_eq]
theorem xB (l:aA0):(⟨l.toArray⟩:ByteArray).size=l.length:=by simp[ByteArray.size]
theorem JH {op:BinOp} {T fQ:TypeId} {x y:Operand} {a:Act} {w:World} {k:IntKind} {n m r:Int} (ag:o.op= .binOp op T x y fQ) (E:a.eval x= .int k n) (G:a.eval y= .int k m)
  (h:(op= .add/\r=n+m)\/(op= .sub/\r=n - m)\/(op= .mul/\r=n*m)) (aC:uu k r):(execOp a.eval o).run P w= .ok (.value (.int k r)) w:=by
 simp only[execOp,ag,E,G];rcases h with⟨rfl,rfl⟩ |⟨rfl,rfl⟩ |⟨rfl,rfl⟩ <;>simp[eqGuard,go_sem,xA aC,Op.intArith]
theorem PG {op:BinOp} {T fQ:TypeId} {x y:Operand} {a:Act} {w:World} {k:IntKind} {n m r:Int} (ag:o.op= .binOp op T x y fQ) (E:a.eval x= .int k n) (G:a.eval y= .int k m)
  (hn:0<=n) (aw:0 < m) (h:(op= .quo/\r=n/m)\/(op= .rem/\r=n % m)) (aC:uu k r):(execOp a.eval o).run P w= .ok (.value (.int k r)) w:=by
 have BS:m≠0:=aw8
 simp only[execOp,ag,E,G];rcases h with⟨rfl,rfl⟩ |⟨rfl,rfl⟩
 .have e:n.tdiv m=n/m:=Int.tdiv_eq_ediv_of_nonneg hn;simp[eqGuard,go_sem,Op.intDiv,BS,e,xA aC]
 .have e:n.tmod m=n % m:=Int.tmod_eq_emod_of_nonneg hn;simp[eqGuard,go_sem,Op.intDiv,BS,e]
theorem zJ {op:BinOp} {T fQ:TypeId} {x y:Operand} {a:Act} {w:World} {k:IntKind} {n m:Int} {b:Bool} (ag:o.op= .binOp op T x y fQ) (E:a.eval x= .int k n) (G:a.eval y= .int k m)
  (h:(op= .eql/\b=decide (n=m))\/(op= .neq/\b= !decide (n=m))\/(op= .lss/\b=decide (n < m))\/(op= .leq/\b=decide (n<=m))\/(op= .gtr/\b=decide (m < n))\/(op= .geq/\b=decide (m<=n))):
  (execOp a.eval o).run P w= .ok (.value (.bool b)) w:=by
 simp only[execOp,ag,E,G];rcases h with⟨rfl,rfl⟩ |⟨rfl,rfl⟩ |⟨rfl,rfl⟩ |⟨rfl,rfl⟩ |⟨rfl,rfl⟩ |⟨rfl,rfl⟩
 all_goals
  simp[eqGuard,go_sem,Op.intCmp]
 all_goals
  by_cases e:n=m <;>simp[e]
theorem JI {op:BinOp} {T fQ:TypeId} {x y:Operand} {a:Act} {w:World} {k cR:IntKind} {n m r:Int} (ag:o.op= .binOp op T x y fQ) (E:a.eval x= .int k n) (G:a.eval y= .int cR m)
  (hn:0<=n) (aw:0<=m) (O:m.toNat<=k.bits) (h:(op= .shl/\r=n*(2 ^m.toNat:Nat))\/(op= .shr/\r=n/(2 ^m.toNat:Nat))) (aC:op= .shl->uu k r):(execOp a.eval o).run P w= .ok (.value (.int k r)) w:=by
 have BS: ¬m < 0:=aw8
 have bJ:min m.toNat k.bits=m.toNat:=aw8
 simp only[execOp,ag,E,G];rcases h with⟨rfl,rfl⟩ |⟨rfl,rfl⟩
 .have e:=xA (aC rfl);simp only[Int.natCast_pow,Int.cast_ofNat_Int] at e⊢
  have ax:Op.shift .shl k n cR m=pure (.int k (n*2 ^m.toNat)):=by
   unfold Op.shift;rw[if_neg BS,bJ];simp only;rw[e]
  simp only[eqGuard,binOp,ax];simp[go_sem]
 .have e:n.fdiv (2 ^m.toNat)=n/(2 ^m.toNat):=by rw[Int.fdiv_eq_ediv_of_nonneg];exact Int.pow_nonneg aw1
  simp only[Int.natCast_pow,Int.cast_ofNat_Int]
  have ax:Op.shift .shr k n cR m=pure (.int k (n/2 ^m.toNat)):=by
   unfold Op.shift;rw[if_neg BS,bJ];simp only;rw[e]
  simp only[eqGuard,binOp,ax];simp[go_sem]
theorem zK {op:BinOp} {T fQ:TypeId} {x y:Operand} {a:Act} {w:World} {s t:aA0} {b:Bool} (ag:o.op= .binOp op T x y fQ) (E:a.eval x= .string ⟨s.toArray⟩) (G:a.eval y= .string ⟨t.toArray⟩)
  (h:(op= .eql/\b=decide (s=t))\/(op= .neq/\b= !decide (s=t))\/(op= .lss/\b=Op.bytesLess s t)\/(op= .leq/\b=(Op.bytesLess s t||decide (s=t)))\/(op= .gtr/\b= !(Op.bytesLess s t||decide (s=t)))\/(op= .geq/\b= !Op.bytesLess s t)):
  (execOp a.eval o).run P w= .ok (.value (.bool b)) w:=by
 have e:(s == t)=decide (s=t):=by by_cases e:s=t <;>simp[e]
 simp only[execOp,ag,E,G];rcases h with⟨rfl,rfl⟩ |⟨rfl,rfl⟩ |⟨rfl,rfl⟩ |⟨rfl,rfl⟩ |⟨rfl,rfl⟩ |⟨rfl,rfl⟩ <;>simp[eqGuard,go_sem,Op.stringOp,toList_mk,e]
theorem YO (s t:aA0):(⟨s.toArray⟩:ByteArray)++⟨t.toArray⟩=⟨(s++t).toArray⟩:=by
 have:((⟨s.toArray⟩:ByteArray)++⟨t.toArray⟩).data=(s++t).toArray:=by
  simp[ByteArray.data_append]
 cases h:(⟨s.toArray⟩:ByteArray)++⟨t.toArray⟩
 rw[h] at this;simp only at this;rw[this]
theorem YP {T fQ:TypeId} {x y:Operand} {a:Act} {w:World} {s t:aA0} (ag:o.op= .binOp .add T x y fQ) (E:a.eval x= .string ⟨s.toArray⟩) (G:a.eval y= .string ⟨t.toArray⟩)
  (h:s.length+t.length<=4294967296):(execOp a.eval o).run P w= .ok (.value (.string ⟨(s++t).toArray⟩)) w:=by
 simp only[execOp,ag,E,G]
 have hn: ¬(((s.length+t.length:Nat):Int) >IntKind.i64.max):=by
  have:IntKind.i64.max=9223372036854775807:=by decide
  omega
 simp only[eqGuard,binOp,Op.stringOp,xB,YO];rw[if_neg hn];simp[go_sem]
end
end
section
section
variable {P:Program} {aU:dl} {N:Nat} {ids:aA1} {o:Oper} {K:aX} {B:ay} {k:aO->fY->Prop}
theorem bB.one {x:Operand} {BT v:aO} (hx:a7 K x=BT) (aw:x∈o.op.operands)
  (h: ∀(K':aX) (ρ:Nat->bo) (I:Nat->Prop) (a:Act) (w:World),ey K' ρ I a w->a7 K' x=BT-> ∃r,(execOp a.eval o).run P w= .ok (.value r) w/\cx ρ I w v r):bB P N ids o K B v bJ:=
 bB.val fun K' B' E G C ρ F a w ar au=>h K' ρ _ a w au ((E x aw).trans hx)
theorem bB.two {x y:Operand} {BT PH v:aO} (hx:a7 K x=BT) (aD:a7 K y=PH) (aw:x∈o.op.operands) (hn:y∈o.op.operands)
  (h: ∀(K':aX) (ρ:Nat->bo) (I:Nat->Prop) (a:Act) (w:World),ey K' ρ I a w->a7 K' x=BT->a7 K' y=PH-> ∃r,(execOp a.eval o).run P w= .ok (.value r) w/\cx ρ I w v r):bB P N ids o K B v bJ:=
 bB.val fun K' B' E G C ρ F a w ar au=>h K' ρ _ a w au ((E x aw).trans hx) ((E y hn).trans aD)
theorem YQ {a b:Int} (E:0<=a) (G:a<=9223372036854775807) (al:0<=b) (aW:b<=9223372036854775807):
  IntKind.i64.wrap (((BitVec.ofInt 64 a ||| BitVec.ofInt 64 b).toNat:Nat):Int)=((a.toNat ||| b.toNat:Nat):Int):=by
 have af:(BitVec.ofInt 64 a).toNat=a.toNat:=az2
 have ao:(BitVec.ofInt 64 b).toNat=b.toNat:=az2
 rw[BitVec.toNat_or,af,ao];have h:a.toNat ||| b.toNat < 2 ^63:=Nat.or_lt_two_pow aw0 aw0;exact xA (by simp only[uu];omega)
theorem PI {op:BinOp} {T fQ:TypeId} {x y:Operand} (ag:o.op= .binOp op T x y fQ)
  (ae:(∃e,P.underlying T=some (.pointer e))\/ ∀c d,a7 K x≠ .c (.one (.ptr c d))/\a7 K x≠ .c (.one (.bM (.pointer none))))
  (h:EX op (a7 K x) (a7 K y) k): ∃v,k v bJ/\bB P N ids o K B v bJ:=by
 have m1:x∈o.op.operands:=by rw[ag];exact zI.1
 have m2:y∈o.op.operands:=by rw[ag];exact zI.2
 unfold EX at h
 split at h
 .rename_i i a j b hx aD
  have two: ∀(v:aO) (aA:i=j-> ∀(K':aX) (ρ:Nat->bo) (I:Nat->Prop) (fl:Act) (w:World),fl.eval x= .int i a->fl.eval y= .int i b-> ∃r,(execOp fl.eval o).run P w= .ok (.value r) w/\cx ρ I w v r),mj i j=true->bB P N ids o K B v bJ:=fun v aA gS=>
   bB.two hx aD m1 m2 fun K' ρ I fl w au af ao=>aA (nZ gS) K' ρ I fl w (au.int af) (by rw[nZ gS];exact au.int ao)
  have PJ: ∀(v:aO) (aA: ∀(K':aX) (ρ:Nat->bo) (I:Nat->Prop) (fl:Act) (w:World),fl.eval x= .int i a->fl.eval y= .int j b-> ∃r,(execOp fl.eval o).run P w= .ok (.value r) w/\cx ρ I w v r),bB P N ids o K B v bJ:=fun v aA=>
   bB.two hx aD m1 m2 fun K' ρ I fl w au af ao=>aA K' ρ I fl w (au.int af) (au.int ao)
  split at h
  .rename_i gS;have h:=xu h;exact⟨_,h.2,two _ (fun _ K' ρ I fl w E G=>⟨_,JH ag E G (.inl ⟨rfl,rfl⟩) h.1,rfl⟩) gS⟩
  .rename_i gS;have h:=xu h;exact⟨_,h.2,two _ (fun _ K' ρ I fl w E G=>⟨_,JH ag E G (.inr (.inl ⟨rfl,rfl⟩)) h.1,rfl⟩) gS⟩
  .rename_i gS;have h:=xu h;exact⟨_,h.2,two _ (fun _ K' ρ I fl w E G=>⟨_,JH ag E G (.inr (.inr ⟨rfl,rfl⟩)) h.1,rfl⟩) gS⟩
  .rename_i gS;have h':=xu h.2;exact⟨_,h'.2,two _ (fun _ K' ρ I fl w E G=>⟨_,PG ag E G h.1.1 h.1.2 (.inl ⟨rfl,rfl⟩) h'.1,rfl⟩) gS⟩
  .rename_i gS;have h':=xu h.2;exact⟨_,h'.2,two _ (fun _ K' ρ I fl w E G=>⟨_,PG ag E G h.1.1 h.1.2 (.inr ⟨rfl,rfl⟩) h'.1,rfl⟩) gS⟩
  .split at h
   .rename_i aG;have:=nZ aG;subst this;have h':=xu h.2;exact⟨_,h'.2,PJ _ fun K' ρ I fl w E G=>⟨_,JI ag E G h.1.1 h.1.2.1 (by simp[IntKind.bits];have:=h.1.2.2;omega) (.inl ⟨rfl,rfl⟩) (fun _=>h'.1),rfl⟩⟩
   .exact h.elim
  .split at h
   .rename_i aG;have:=nZ aG;subst this;exact⟨_,h.2,PJ _ fun K' ρ I fl w E G=>⟨_,JI ag E G h.1.1 h.1.2.1 (by simp[IntKind.bits];have:=h.1.2.2;omega) (.inr ⟨rfl,rfl⟩) (fun e=>by cases e),rfl⟩⟩
   .exact h.elim
  .rename_i gS
   split at h
   .rename_i aG;have:=nZ aG;subst this;refine⟨_,h.2,two _ (fun V K' ρ I fl w E G=>⟨_,?_,rfl⟩) gS⟩;have e:=YQ h.1.1 h.1.2.1 h.1.2.2.1 h.1.2.2.2
    have ax:Op.intBits .or .i64 a b=pure (.int .i64 ((a.toNat ||| b.toNat:Nat):Int)):=by
     exact congrArg (fun aB:Int=>(pure (Value.int .i64 aB):Sem Value)) e
    simp only[execOp,ag,E,G,eqGuard,binOp,ax];simp[go_sem]
   .exact h.elim
  .rename_i gS;exact⟨_,h,two _ (fun _ K' ρ I fl w E G=>⟨_,zJ ag E G (.inl ⟨rfl,rfl⟩),rfl⟩) gS⟩
  .rename_i gS;exact⟨_,h,two _ (fun _ K' ρ I fl w E G=>⟨_,zJ ag E G (.inr (.inl ⟨rfl,rfl⟩)),rfl⟩) gS⟩
  .rename_i gS;exact⟨_,h,two _ (fun _ K' ρ I fl w E G=>⟨_,zJ ag E G (.inr (.inr (.inl ⟨rfl,rfl⟩))),rfl⟩) gS⟩
  .rename_i gS;exact⟨_,h,two _ (fun _ K' ρ I fl w E G=>⟨_,zJ ag E G (.inr (.inr (.inr (.inl ⟨rfl,rfl⟩)))),rfl⟩) gS⟩
  .rename_i gS;exact⟨_,h,two _ (fun _ K' ρ I fl w E G=>⟨_,zJ ag E G (.inr (.inr (.inr (.inr (.inl ⟨rfl,rfl⟩))))),rfl⟩) gS⟩
  .rename_i gS;exact⟨_,h,two _ (fun _ K' ρ I fl w E G=>⟨_,zJ ag E G (.inr (.inr (.inr (.inr (.inr ⟨rfl,rfl⟩))))),rfl⟩) gS⟩
  .exact h.elim
 .rename_i s t hx aD
  have two: ∀(v:aO) (aA: ∀(K':aX) (ρ:Nat->bo) (I:Nat->Prop) (fl:Act) (w:World),fl.eval x= .string ⟨s.toArray⟩->fl.eval y= .string ⟨t.toArray⟩-> ∃r,(execOp fl.eval o).run P w= .ok (.value r) w/\cx ρ I w v r),bB P N ids o K B v bJ:=fun v aA=>
   bB.two hx aD m1 m2 fun K' ρ I fl w au af ao=>aA K' ρ I fl w (au.str af) (au.str ao)
  split at h
  .exact⟨_,h.2,two _ fun K' ρ I fl w E G=>⟨_,YP ag E G h.1,rfl⟩⟩
  .exact⟨_,h,two _ fun K' ρ I fl w E G=>⟨_,zK ag E G (.inl ⟨rfl,rfl⟩),rfl⟩⟩
  .exact⟨_,h,two _ fun K' ρ I fl w E G=>⟨_,zK ag E G (.inr (.inl ⟨rfl,rfl⟩)),rfl⟩⟩
  .exact⟨_,h,two _ fun K' ρ I fl w E G=>⟨_,zK ag E G (.inr (.inr (.inl ⟨rfl,rfl⟩))),rfl⟩⟩
  .exact⟨_,h,two _ fun K' ρ I fl w E G=>⟨_,zK ag E G (.inr (.inr (.inr (.inl ⟨rfl,rfl⟩)))),rfl⟩⟩
  .exact⟨_,h,two _ fun K' ρ I fl w E G=>⟨_,zK ag E G (.inr (.inr (.inr (.inr (.inl ⟨rfl,rfl⟩))))),rfl⟩⟩
  .exact⟨_,h,two _ fun K' ρ I fl w E G=>⟨_,zK ag E G (.inr (.inr (.inr (.inr (.inr ⟨rfl,rfl⟩))))),rfl⟩⟩
  .exact h.elim
 .rename_i c d hx aD;obtain⟨e,a8⟩:=ae.resolve_right fun h=>(h c d).1 hx
  have q: ∀(p:Addr) (w:World),(Op.equalIn (9999+1) T (.pointer (some p)) (.pointer none)).run P w= .ok false w:=fun p w=>by
   unfold Op.equalIn;simp[run_underlying a8]
  split at h
  .refine⟨_,h,bB.two hx aD m1 m2 fun K' ρ I fl w au af ao=>⟨_,?_,rfl⟩⟩;simp only[execOp,ag,au.ptr af,au.bM ao];simp[eqGuard,binOp,Op.equal,Op.maxDepth,q]
  .refine⟨_,h,bB.two hx aD m1 m2 fun K' ρ I fl w au af ao=>⟨_,?_,rfl⟩⟩;simp only[execOp,ag,au.ptr af,au.bM ao];simp[eqGuard,binOp,Op.equal,Op.maxDepth,q]
  .exact h.elim
 .rename_i hx aD;obtain⟨e,a8⟩:=ae.resolve_right fun h=>(h 0 0).2 hx
  have q: ∀(w:World),(Op.equalIn (9999+1) T (.pointer none) (.pointer none)).run P w= .ok true w:=fun w=>by
   unfold Op.equalIn;simp[run_underlying a8]
  split at h
  .refine⟨_,h,bB.two hx aD m1 m2 fun K' ρ I fl w au af ao=>⟨_,?_,rfl⟩⟩;simp only[execOp,ag,au.bM af,au.bM ao];simp[eqGuard,binOp,Op.equal,Op.maxDepth,q]
  .refine⟨_,h,bB.two hx aD m1 m2 fun K' ρ I fl w au af ao=>⟨_,?_,rfl⟩⟩;simp only[execOp,ag,au.bM af,au.bM ao];simp[eqGuard,binOp,Op.equal,Op.maxDepth,q]
  .exact h.elim
 .exact h.elim
theorem PK {op:BinOp} {T fQ:TypeId} {x y:Operand} (ag:o.op= .binOp op T x y fQ) (bl: ∀T,zC aU T=true-> ∃e i,P.underlying T=some (.pointer e)/\P.info? e=some i/\i.size≠0)
  (ae: ∃e,P.underlying T=some (.pointer e)) (h:EZ aU T op (a7 K x) (a7 K y) k): ∃v,k v bJ/\bB P N ids o K B v bJ:=by
 have m1:x∈o.op.operands:=by rw[ag];exact zI.1
 have m2:y∈o.op.operands:=by rw[ag];exact zI.2
 unfold EZ at h
 split at h
 .rename_i p hx;obtain⟨e,a8⟩:=ae
  have key: ∀(b:Bool) (r:Option Nat),(∀(ρ:Nat->bo) (I:Nat->Prop) (w:World) (v:Value),cx ρ I w (a7 K y) v->v= .pointer (nU r))->(b=true->p=r/\(r=none\/zC aU T=true))->(b=false->(p=none/\r≠none)\/(p≠none/\r=none))->(op= .eql->bB P N ids o K B (.c (.one (.d (.lit b)))) bJ)/\(op= .neq->bB P N ids o K B (.c (.one (.d (.lit !b)))) bJ):=by
   intro b r aD E G
   have q: ∀(w:World),(Op.equalIn (9999+1) T (.pointer (nU p)) (.pointer (nU r))).run P w= .ok b w:=by
    intro w;unfold Op.equalIn
    cases b with
    |true=>
     obtain⟨rfl,al⟩:=E rfl
     cases p with
     |none=>simp[run_underlying a8,nU]
     |some p=>
      rcases al with al |al
      .cases al
      .obtain⟨b6,i,ce,cR,er⟩:=bl T al;rw[a8] at ce;injection ce with ce
       injection ce with ce
       subst ce;simp[run_underlying a8,nU,sizeOf,typeInfo,cR,er,sameAddr]
    |false=>
     rcases G rfl with⟨rfl,al⟩ |⟨al,rfl⟩
     .cases r with
      |none=>exact absurd rfl al
      |some r=>simp[run_underlying a8,nU]
     .cases p with
      |none=>exact absurd rfl al
      |some p=>simp[run_underlying a8,nU]
   refine⟨fun af=>?_,fun af=>?_⟩
   .subst af;refine bB.val fun K' B' g1 g2 C ρ F a w ar au=>⟨.bool b,?_,rfl⟩
    have af:a.eval x= .pointer (nU p):=au.ev ((g1 x m1).trans hx);have ao:a.eval y= .pointer (nU r):=aD _ _ _ _ (au.ev (g1 y m2));simp only[execOp,ag,af,ao];simp[eqGuard,binOp,Op.equal,Op.maxDepth,q]
   .subst af;refine bB.val fun K' B' g1 g2 C ρ F a w ar au=>⟨.bool !b,?_,rfl⟩
    have af:a.eval x= .pointer (nU p):=au.ev ((g1 x m1).trans hx);have ao:a.eval y= .pointer (nU r):=aD _ _ _ _ (au.ev (g1 y m2));simp only[execOp,ag,af,ao];simp[eqGuard,binOp,Op.equal,Op.maxDepth,q]
  have two: ∀(f:Bool->Prop),EY aU T p (a7 K y) f-> ∃b,f b/\(op= .eql->bB P N ids o K B (.c (.one (.d (.lit b)))) bJ)/\(op= .neq->bB P N ids o K B (.c (.one (.d (.lit !b)))) bJ):=by
   intro f h;unfold EY at h
   split at h
   .rename_i aD;have ed: ∀(ρ:Nat->bo) (I:Nat->Prop) (w:World) (v:Value),cx ρ I w (a7 K y) v->v= .pointer (nU none):=fun ρ I w v aA=>by rw[aD] at aA;exact aA
    cases ae:p with
    |some b=>exact⟨_,h.1 b ae,by
      have:=key false none ed (fun e=>by cases e) (fun _=>.inr ⟨by simp[ae],rfl⟩);exact this⟩
    |none=>exact⟨_,h.2 ae,key true none ed (fun _=>⟨ae,.inl rfl⟩) (fun e=>by cases e)⟩
   .rename_i r aD;have ed: ∀(ρ:Nat->bo) (I:Nat->Prop) (w:World) (v:Value),cx ρ I w (a7 K y) v->v= .pointer (nU r):=fun ρ I w v aA=>by rw[aD] at aA;exact aA
    split at h
    .have aZ:zC aU T=true:=by assumption
     obtain⟨rfl,h⟩:=h;exact⟨_,h,key _ _ ed (fun _=>⟨rfl,.inr aZ⟩) (fun e=>by cases e)⟩
    .exact h.elim
   .exact h.elim
  split at h
  .obtain⟨b,E,G,_⟩:=two _ h;exact⟨_,E,G rfl⟩
  .obtain⟨b,E,_,G⟩:=two _ h;exact⟨_,E,G rfl⟩
  .exact h.elim
 .exact PI ag (.inl ae) h
theorem PL {op:BinOp} {T fQ:TypeId} {x y:Operand} (ag:o.op= .binOp op T x y fQ) (a8:P.underlying T=some .bool) {a:Bool} (hx:a7 K x= .c (.one (.d (.bool a)))\/a7 K x= .c (.one (.d (.lit a))))
  (h:E1 op a (a7 K y) k): ∃v,k v bJ/\bB P N ids o K B v bJ:=by
 have m1:x∈o.op.operands:=by rw[ag];exact zI.1
 have m2:y∈o.op.operands:=by rw[ag];exact zI.2
 have q: ∀(a b:Bool) (w:World),(Op.equalIn (9999+1) T (.bool a) (.bool b)).run P w= .ok (a == b) w:=fun a b w=>by
  unfold Op.equalIn;simp[run_underlying a8]
 have key: ∀(b:Bool) (r:Bool),(a7 K y= .c (.one (.d (.bool b)))\/a7 K y= .c (.one (.d (.lit b))))->(op= .eql/\r=(a == b))\/(op= .neq/\r= !(a == b))->bB P N ids o K B (.c (.one (.d (.bool r)))) bJ:=fun b r aD aC=>
  bB.val fun K' B' E G C ρ F fl w ar au=>by
   have ex:fl.eval x= .bool a:=by
    have:=au.get x;rw[E x m1] at this;rcases hx with hx |hx <;>(rw[hx] at this;exact this)
   have JJ:fl.eval y= .bool b:=by
    have:=au.get y;rw[E y m2] at this;rcases aD with aD |aD <;>(rw[aD] at this;exact this)
   refine⟨.bool r,?_,rfl⟩;rcases aC with⟨rfl,rfl⟩ |⟨rfl,rfl⟩ <;>(simp only[execOp,ag,ex,JJ];simp[eqGuard,binOp,Op.equal,Op.maxDepth,q])
 unfold E1 at h
 split at h
 .exact⟨_,h,key _ _ (.inl ‹_›) (.inl ⟨rfl,rfl⟩)⟩
 .exact⟨_,h,key _ _ (.inr ‹_›) (.inl ⟨rfl,rfl⟩)⟩
 .exact⟨_,h,key _ _ (.inl ‹_›) (.inr ⟨rfl,rfl⟩)⟩
 .exact⟨_,h,key _ _ (.inr ‹_›) (.inr ⟨rfl,rfl⟩)⟩
 .exact h.elim
end
end
section
section
variable {ρ:Nat->bo} {I:Nat->Prop} {w:World}
theorem cc.length: ∀(l:List bC) (aE:List Value),cc ρ I w l aE->aE.length=l.length
 | [],_,h=>by rw[show _=[] from h];rfl
 |s::l,_,⟨v,r,e,E,G⟩=>by rw[e,au1,au1,cc.length l r G]
theorem cc.get: ∀(l:List bC) (aE:List Value),cc ρ I w l aE-> ∀(i:Nat) (s:bC),l[i]? =some s-> ∃v,aE[i]? =some v/\d1 ρ I w s v
 | [],_,h,i,s,ax=>by simp at ax
 |t::l,_,⟨v,r,e,E,G⟩,0,s,ax=>by
  simp only[ar9,aq8] at ax;subst ax e;exact⟨v,rfl,E⟩
 |t::l,_,⟨v,r,e,E,G⟩,i+1,s,ax=>by
  subst e;simpa using cc.get l r G i s (by simpa using ax)
theorem cc.uA: ∀(l m:List bC) (aE us:List Value),cc ρ I w l aE->cc ρ I w m us->cc ρ I w (l++m) (aE++us)
 | [],m,_,us,h,h'=>by rw[show _=[] from h];exact h'
 |s::l,m,_,us,⟨v,r,e,E,G⟩,h'=>⟨v,r++us,by rw[e];rfl,E,cc.uA l m r us G h'⟩
theorem cc.Fc: ∀(n:Nat) (l:List bC) (aE:List Value),cc ρ I w l aE->cc ρ I w (l.take n) (aE.take n)
 |0,_,_,_=>rfl
 |n+1,[],_,h=>by rw[show _=[] from h];rfl
 |n+1,s::l,_,⟨v,r,e,E,G⟩=>⟨v,r.take n,by rw[e];rfl,E,cc.Fc n l r G⟩
theorem cc.rt: ∀(n:Nat) (l:List bC) (aE:List Value),cc ρ I w l aE->cc ρ I w (l.drop n) (aE.drop n)
 |0,_,_,h=>h
 |n+1,[],_,h=>by rw[show _=[] from h];rfl
 |n+1,s::l,_,⟨v,r,e,E,G⟩=>by rw[e];exact cc.rt n l r G
theorem cc.splice {l cs:List bC} {aE us:List Value} {o:Nat} (h:cc ρ I w l aE) (h':cc ρ I w cs us):cc ρ I w (BM l o cs) (aE.take o++us++aE.drop (o+us.length)):=by
 unfold BM;rw[cc.length cs us h'];exact cc.uA _ _ _ _ (cc.uA _ _ _ _ (cc.Fc _ _ _ h) h') (cc.rt _ _ _ h)
theorem ok_one {s:bC} {v:Value} (h:s.ok=true) (aA:d1 ρ I w s v):v.oneCell'=true:=by
 cases s with
 |d x=>
  cases x with
  |cf u xs=>obtain⟨A,cap,e,_⟩:=aA;injection e with e;rw[e];rfl
  |dL y=>rw[show v=rj y from aA];rcases y with _ |⟨b,n,c⟩ <;>rfl
  |fn y=>rw[show v=mL y from aA];rfl
  |_=>rw[show v=_ from aA];rfl
 |ptr c o=>rw[show v=_ from aA];rfl
 |own c=>rw[show v=_ from aA];rfl
 |el u x o=>obtain⟨b,p,e,_⟩:=aA;rw[e];rfl
 |gj c s i o=>rw[show v=_ from aA];rfl
 |os c s o n=>rw[show v=_ from aA];rfl
 |mp c=>rw[show v=_ from aA];rfl
 |cY f l=>obtain⟨aE,e,_⟩:=aA;rw[e];rfl
 |dH=>rw[show v=_ from aA];rfl
 |bM u=>
  rw[show v=u from aA]
  cases u <;>first |rfl |(simp[bC.ok] at h)
 |any=>simp[bC.ok] at h
theorem PM: ∀{l:List bC} {aE:List Value},ER l=true->cc ρ I w l aE-> ∀u∈aE,u.oneCell'=true
 | [],_,_,aA,u,a8=>by rw[show _=[] from aA] at a8;cases a8
 |s::l,_,h,⟨v,r,e,E,G⟩,u,a8=>by
  simp only[ER,vj] at h;subst e;rcases aq7.1 a8 with rfl |a8
  .exact ok_one h.1 E
  .exact PM h.2 G u a8
theorem JK {pK:aO} {l:List bC} {v:Value} (h:vT pK=some l) (aA:cx ρ I w pK v): ∃aE,v.cells=List.toArray aE/\cc ρ I w l aE/\ ∀u∈aE,u.oneCell'=true:=by
 unfold vT at h
 split at h
 .split at h
  .rename_i s ax;injection h with h
   subst h;have E:=ok_one ax aA;refine⟨[v],?_,⟨v,[],rfl,aA,rfl⟩,fun u a8=>by simp at a8;rw[a8];exact E⟩
   cases v <;>first |rfl |(simp[Value.oneCell'] at E)
  .cases h
 .split at h
  .rename_i l' ap;injection h with h
   subst h;obtain⟨aE,e,G⟩:=aA;exact⟨aE,by rw[e];rfl,G,PM ap G⟩
  .cases h
 .cases h
end
def dc {α:Type} (f:Nat->α) (c:Nat) (x:α):Nat->α:=fun d=>if d=c then x else f d
theorem dd {α:Type} (f:Nat->α) (c:Nat) (x:α):dc f c x c=x:=if_pos rfl
theorem dm {α:Type} (f:Nat->α) {c d:Nat} (x:α) (h:d≠c):dc f c x d=f d:=if_neg h
theorem PN {c:Nat}: ∀{K:aX},ur c K=true-> ∀s,(dI K s).has c=false
 | [],_,s=>rfl
 |(t,v)::K,h,s=>by
  simp only[ur,vj,Bool.not_eq_true'] at h;rw[kp]
  split
  .exact h.1
  .exact PN h.2 s
theorem uB {c:Nat}: ∀{B:ay},kw c B=true->aj B c=none/\ ∀d ch,aj B d=some ch->ch.has c=false
 | [],_=>⟨rfl,fun d ch h=>by cases h⟩
 |(t,v)::B,h=>by
  simp only[kw,vj,Bool.not_eq_true'] at h;obtain⟨E,G⟩:=uB h.2;have a6:t≠c:=fun e=>by subst e;simp at h
  refine⟨by rw[cd,if_neg a6];exact E,fun d ch H=>?_⟩;rw[cd] at H
  split at H
  .injection H with H;subst H;exact h.1.2
  .exact G d ch H
theorem kV {ids:aA1} {K:aX} {B:ay} {c:Nat} (h:g9 ids K B c=true):(∀s,(dI K s).has c=false)/\aj B c=none/\(∀d ch,aj B d=some ch->ch.has c=false)/\c∉ids:=by
 simp only[g9,vj,Bool.not_eq_true'] at h;obtain⟨G,al⟩:=uB h.1.2;exact⟨PN h.1.1,G,al,by simpa using h.2⟩
section
variable {P:Program} {aU:dl} {N:Nat} {ids:aA1} {o:Oper} {K:aX} {B:ay} {C:fi} {ρ:Nat->bo} {F:Nat->Nat->Prop} {w w':World}
theorem Mem.make (h:Mem ids C B ρ F w) {c:Nat} {ch:ba} (hf:g9 ids K B c=true) (O:Below w.heap.size w w') (pl:bo) (b9:Nat->Prop) (kW: ∀b,b9 b->w.heap.size<=b/\b < w'.heap.size)
  (c0: ∀I,cj (b5 C B F w) w I w'->(∀b,I b->b < w'.heap.size/\ ¬b9 b)->Holds (dc ρ c pl) I b9 w' pl ch):
  Mem ids C ((c,ch)::B) (dc ρ c pl) (dc F c b9) w'/\cj (b5 C B F w) w (b5 C ((c,ch)::B) (dc F c b9) w') w':=by
 obtain⟨io,jB,pL,pM⟩:=kV hf;refine h.step (fun d=>d=c) (fun d=>d=c) (cP.oR O) ?_ (fun d H=>dm _ _ H) (fun d H=>dm _ _ H) (fun d H e=>pM (e▸H)) (fun _ h=>h) ?_ ?_ ?_ ?_
 .intro d ch' H a6;rw[cd,if_neg (fun e=>a6 e.symm)] at H;exact H
 .rintro d ch' H _ e U rfl;rw[pL d ch' H] at U
  cases U
 .rintro d ch' H rfl U;rw[cd,if_pos rfl] at H;injection H with H
  subst H;rw[dd,dd];exact c0 _ U fun b dt=>⟨dt.1,fun aY=>dt.2.2 d ch ax6 (by rw[dd];exact aY)⟩
 .rintro d ch' H rfl b aY;rw[dd] at aY;exact⟨(kW b aY).2,.inr (kW b aY).1⟩
 .rintro d cT i3 oY b _ _ rfl rfl a6;exact absurd rfl a6
theorem Mem.h0 (h:Mem ids C B ρ F w) {c:Nat} {cB ch:ba} (J:aj B c=some cB) (cE:cP (F c) w w')
  (c0: ∀I,cj (b5 C B F w) w I w'->Holds ρ I (F c) w' (ρ c) ch):
  Mem ids C ((c,ch)::B) ρ F w'/\cj (b5 C B F w) w (b5 C ((c,ch)::B) F w') w':=by
 refine h.step (fun d=>d=c) (fun _=>False) (cE.mono fun b _ O=>⟨c,cB,J,rfl,O⟩) ?_ (fun _ _=>rfl) (fun _ _=>rfl) (fun _ _ h=>h) (fun _ h=>h.elim) (fun _ _ _ _ _ _ h=>h) ?_ ?_ ?_
 .intro d ch' H a6;rw[cd,if_neg (fun e=>a6 e.symm)] at H;exact H
 .rintro d ch' H rfl U;rw[cd,if_pos rfl] at H;injection H with H
  subst H;exact c0 _ U
 .rintro d ch' H rfl b O;exact⟨Nat.lt_of_lt_of_le (h.own d cB J b O).1 cE.size,.inl ⟨d,cB,J,rfl,O⟩⟩
 .rintro d cT i3 oY b _ _ rfl rfl a6;exact absurd rfl a6
theorem bB.make {c:Nat} {ch:ba} {v:aO} {ix:aA1} (aA: ∀d,v.has d=true->d=c)
  (h: ∀(K':aX) (B':ay),(∀x,x∈o.op.operands->a7 K' x=a7 K x)->(∀c,c∈ix->aj B' c=aj B c)-> ∀(C:fi) (ρ:Nat->bo) (F:Nat->Nat->Prop) (a:Act) (w:World),Mem ids C B' ρ F w->ey K' ρ (b5 C B' F w) a w->
   (∀s,(dI K' s).has c=false)-> ∃x w' pl b9,(execOp a.eval o).run P w= .ok (.value x) w'/\Below w.heap.size w w'/\(∀b,b9 b->w.heap.size<=b/\b < w'.heap.size)/\
    (∀I,cj (b5 C B' F w) w I w'->(∀b,I b->b < w'.heap.size/\ ¬b9 b)->Holds (dc ρ c pl) I b9 w' pl ch/\cx (dc ρ c pl) I w' v x)):
  bB P N ids o K B v ⟨ix,[c],[(c,some ch)]⟩:=by
 rintro K' B' E G al C a w ⟨hn,H,ρ,F,ar,au⟩ bx fO Q dq;have hf:=al c aw2;have cE:=kV hf;obtain⟨x,w',pl,b9,hx,O,kW,c0⟩:=h K' B' E G C ρ F a w ar au cE.1;obtain⟨bP,U⟩:=ar.make hf O pl b9 kW fun I af ao=>(c0 I af ao).1
 unfold Oper.wp;rw[hx,Oper.upon_value];refine dq _ _ ⟨kq.trans hn,kr.trans H,dc ρ c pl,dc F c b9,bP,(au.mono U fun s d H=>dm _ _ (fun e=>by subst e;rw[cE.1 s] at H;cases H)).ku (fun e U=>by rw[hn];exact bx e U) ?_⟩;exact(c0 _ U fun b dt=>⟨dt.1,fun aY=>dt.2.2 c ch ax6 (by rw[dd];exact aY)⟩).2
theorem bB.h0 {c:Nat} {cB ch:ba} (J:aj B c=some cB)
  (h: ∀(K':aX) (B':ay),(∀x,x∈o.op.operands->a7 K' x=a7 K x)-> ∀(C:fi) (ρ:Nat->bo) (F:Nat->Nat->Prop) (a:Act) (w:World),Mem ids C B' ρ F w->ey K' ρ (b5 C B' F w) a w->aj B' c=some cB-> ∃w',(execOp a.eval o).run P w= .ok .skip w'/\cP (F c) w w'/\
   (∀I,cj (b5 C B' F w) w I w'->Holds ρ I (F c) w' (ρ c) ch)):
  bB P N ids o K B .undef ⟨[c],[],[(c,some ch)]⟩:=by
 rintro K' B' E G - C a w ⟨hn,H,ρ,F,ar,au⟩ bx fO Q dq;have cQ:aj B' c=some cB:=(G c aw2).trans J;obtain⟨w',hx,cE,c0⟩:=h K' B' E C ρ F a w ar au cQ;obtain⟨bP,U⟩:=ar.h0 cQ cE c0;unfold Oper.wp;rw[hx,Oper.upon_skip];exact dq _ _ ⟨kq.trans hn,kr.trans H,ρ,F,bP,(au.mono U fun _ _ _=>rfl).ku (fun e U=>by rw[hn];exact bx e U) rfl⟩
theorem PO {T:TypeId} {p:Addr} {v:Value} {d:TypeDesc} (a8:P.underlying T=some d) (H:d.isRow=false) (J:w.cell? p=some v):(loadVar T p).run P w= .ok v w:=by
 cases d <;>first |(simp[TypeDesc.isRow] at H;done) |simp[loadVar,isAgg,run_underlying a8,go_sem,J]
theorem Fd {ev:Operand->Value} {T:TypeId} {x:Operand} {p:Addr} {v:Value} {d:TypeDesc} (ag:o.op= .load T x) (E:ev x= .pointer (some p)) (a8:P.underlying T=some d) (H:d.isRow=false) (J:w.cell? p=some v):(execOp ev o).run P w= .ok (.value v) w:=by
 unfold execOp;simp only[ag,E,Instr.loadAt,Instr.sureAddr,Sem.run_bind,Sem.run_pure,Result.andThen_ok,PO a8 H J]
theorem Fe {ev:Operand->Value} {T:TypeId} {x:Operand} {b p:Nat} {cs:List Value} {d:TypeDesc} {i:TypeInfo} (ag:o.op= .load T x) (E:ev x= .pointer (some ⟨b,p,none⟩)) (a8:P.underlying T=some d) (H:d.isRow=true) (aG:P.info? T=some i) (ap:i.size=cs.length)
  (J: ∀(j:Nat) (u:Value),cs[j]? =some u->w.cell? ⟨b,p+j,none⟩=some u):(execOp ev o).run P w= .ok (.value (.agg cs.toArray)) w:=by
 unfold execOp;simp only[ag,E,Instr.loadAt,Instr.sureAddr,Sem.run_bind,Sem.run_pure,Result.andThen_ok,run_loadVar_mid w b p T cs d J a8 H (by rw[aG,au5,ap])]
theorem oZ {b:Nat} {aE:List Value} {T:Nat} (h:w.heap[b]? =some (.cells (List.toArray aE) T (0,0))) {j:Nat} {v:Value} (V:aE[j]? =some v):w.cell? ⟨b,j,none⟩=some v:=by
 simp[World.cell?,h,V]
theorem BU {ev:Operand->Value} {T:TypeId} {x y:Operand} {b p:Nat} {aE us:List Value} {bA:Nat} {i:TypeInfo} (ag:o.op= .store T x y) (E:ev x= .pointer (some ⟨b,p,none⟩)) (aD:(ev y).cells=List.toArray us) (aG:P.info? T=some i) (ap:i.size=us.length)
  (O:w.heap[b]? =some (.cells (List.toArray aE) bA (0,0))) (lg:p+us.length<=aE.length) (ss: ∀u∈us,u.oneCell'=true):
  (execOp ev o).run P w= .ok .skip (w.setRow b (aE.take p++us++aE.drop (p+us.length)).toArray):=by
 have ax:=run_storeCells_at (P:=P) b p bA us 0 (List.toArray aE) w O (by simpa using lg) ss;simp only[Nat.add_zero,List.toList_toArray] at ax;have aR:(ev y).cells.size=i.size:=by rw[aD,ap];simp
 unfold execOp;simp[ag,E,Instr.storeAt,Instr.sureAddr,storeVar,sizeOf,typeInfo,aG,aD,ap,ax]
end
end
section
section
variable {P:Program} {aU:dl} {N:Nat} {ids:aA1} {o:Oper} {K:aX} {B:ay} {k:aO->fY->Prop}
def cI (P:Program) (N:Nat) (ids:aA1) (o:Oper) (K:aX) (B:ay) (k:aO->fY->Prop):Prop:= ∃v e,k v e/\bB P N ids o K B v e/\ ∀c,c∈e.bb->g9 ids K B c=true
theorem cI.of {v:aO} {ix:aA1} {hL:List (Nat×Option ba)} (h:k v ⟨ix,[],hL⟩) (aq:bB P N ids o K B v ⟨ix,[],hL⟩):cI P N ids o K B k:=⟨_,_,h,aq,fun c J=>by cases J⟩
theorem cI.bb {v:aO} {ix:aA1} {d:Nat} {hL:List (Nat×Option ba)} (h:k v ⟨ix,[d],hL⟩) (hf:g9 ids K B d=true) (aq:bB P N ids o K B v ⟨ix,[d],hL⟩):cI P N ids o K B k:=⟨_,_,h,aq,fun c J=>by simp at J;rw[J];exact hf⟩
theorem PP {x:Operand} (ag:o.op= .move x\/o.op= .assign x) (h:oV (a7 K x) fun v=>k v bJ):cI P N ids o K B k:=by
 rw[sq] at h;refine cI.of h <| bB.one rfl (by rcases ag with ag |ag <;>rw[ag] <;>simp[Op.operands]) fun K' ρ I a w au e=>⟨_,?_,au.ev e⟩
 rcases ag with ag |ag <;>simp[execOp,ag]
theorem YR {c x y:Operand} (ag:o.op= .pick c x y) (h:match a7 K c with
  | .c (.one (.d (.lit true)))=>oV (a7 K x) fun v=>k v bJ
  | .c (.one (.d (.lit false)))=>oV (a7 K y) fun v=>k v bJ
  |_=>False):cI P N ids o K B k:=by
 have m1:c∈o.op.operands:=aw7
 have m2:x∈o.op.operands:=aw7
 have m3:y∈o.op.operands:=aw7
 split at h
 .rename_i J;rw[sq] at h;exact cI.of h <| bB.two J rfl m1 m2 fun K' ρ I a w au af ao=>⟨_,by simp[execOp,ag,au.lit af,asBool],au.ev ao⟩
 .rename_i J;rw[sq] at h;exact cI.of h <| bB.two J rfl m1 m3 fun K' ρ I a w au af ao=>⟨_,by simp[execOp,ag,au.lit af,asBool],au.ev ao⟩
 .exact h.elim
theorem YS {T:TypeId} {x:Operand} (ag:o.op= .unOp .not T x) (h:match a7 K x with
  | .c (.one (.d (.lit true)))=>k (.c (.one (.d (.lit false)))) bJ
  | .c (.one (.d (.lit false)))=>k (.c (.one (.d (.lit true)))) bJ
  | .c (.one (.d (.bool b)))=>k (.c (.one (.d (.bool (!b))))) bJ
  |_=>False):cI P N ids o K B k:=by
 have m1:x∈o.op.operands:=aw7
 split at h
 .rename_i J;exact cI.of h <| bB.one J m1 fun K' ρ I a w au af=>⟨_,by simp[execOp,ag,au.lit af,Op.unary],rfl⟩
 .rename_i J;exact cI.of h <| bB.one J m1 fun K' ρ I a w au af=>⟨_,by simp[execOp,ag,au.lit af,Op.unary],rfl⟩
 .rename_i b J;exact cI.of h <| bB.one J m1 fun K' ρ I a w au af=>⟨_,by simp[execOp,ag,au.bool af,Op.unary],rfl⟩
 .exact h.elim
theorem iX.get {ρ:Nat->bo} {I:Nat->Prop} {w:World}: ∀(l:List dQ) (aE:List Value),iX ρ I w l aE-> ∀(i:Nat) (s:dQ),l[i]? =some s-> ∃v,aE[i]? =some v/\gI ρ I w s v
 | [],_,h,i,s,ax=>by simp at ax
 |t::l,_,⟨v,r,e,E,G⟩,0,s,ax=>by
  simp only[ar9,aq8] at ax;subst ax e;exact⟨v,rfl,E⟩
 |t::l,_,⟨v,r,e,E,G⟩,i+1,s,ax=>by
  subst e;simpa using iX.get l r G i s (by simpa using ax)
theorem YT {x:Operand} {i:Nat} (ag:o.op= .extract x i) (h:match a7 K x with
  | .cb l=>match l[i]? with
   |some v=>k (.c v) bJ
   |none=>False
  |_=>False):cI P N ids o K B k:=by
 have m1:x∈o.op.operands:=aw7
 split at h
 .rename_i l ap
  split at h
  .rename_i v aA;refine cI.of h <| bB.one ap m1 fun K' ρ I a w au af=>?_
   obtain⟨aE,e,G⟩:=au.ev af;obtain⟨u,a8,al⟩:=iX.get l aE G i v aA;exact⟨u,by simp[execOp,ag,e,Instr.extract,a8],al⟩
  .exact h.elim
 .exact h.elim
theorem YU {x:Operand} (ag:o.op= .nilCheck x) (h:match a7 K x with
  | .c (.one (.ptr c o))=>k (.c (.one (.ptr c o))) bJ
  | .c (.one (.el u y o))=>k (.c (.one (.el u y o))) bJ
  | .c (.one (.gj c s i o))=>k (.c (.one (.gj c s i o))) bJ
  |_=>False):cI P N ids o K B k:=by
 have m1:x∈o.op.operands:=aw7
 split at h
 .rename_i c p J;exact cI.of h <| bB.one J m1 fun K' ρ I a w au af=>⟨_,by simp[execOp,ag,au.ptr af],rfl⟩
 .rename_i u y p J;refine cI.of h <| bB.one J m1 fun K' ρ I a w au af=>⟨a.eval x,?_,au.ev af⟩
  obtain⟨b,q,e,_⟩:=au.ev af;simp[execOp,ag,e]
 .rename_i c s i p J;exact cI.of h <| bB.one J m1 fun K' ρ I a w au af=>⟨_,by simp[execOp,ag,au.gj af],rfl⟩
 .exact h.elim
theorem Ff {ev:Operand->Value} {T:TypeId} {x:Operand} {f g off d:Nat} {w:World} {fs:Array Field} {jX:Field} {i:TypeInfo} (E:ev x= .pointer (some ⟨g,off,none⟩)) (ag:o.op= .fieldAddr T x f)
  (ci:P.underlying T=some (.struct fs)) (uC:fs[f]? =some jX) (H:jX.offset=d) (aG:P.info? jX.type=some i) (cu:i.size≠0):(execOp ev o).run P w= .ok (.value (.pointer (some ⟨g,off+d,none⟩))) w:=by
 subst H;simp[execOp,ag,E,Instr.fieldAt,run_underlying ci,uC,Instr.sureAddr,fieldPlace,sizeOf,typeInfo,aG,cu,qk]
theorem YV (bl:eh P aU) {T:TypeId} {x:Operand} {f:Nat} (ag:o.op= .fieldAddr T x f) (h:match Jn aU T f with
  |some (d,_)=>match a7 K x with
   | .c (.one (.ptr c o))=>k (.c (.one (.ptr c (o+d)))) bJ
   | .c (.one (.el u y o))=>k (.c (.one (.el u y (o+d)))) bJ
   | .c (.one (.gj c s i o))=>k (.c (.one (.gj c s i (o+d)))) bJ
   |_=>False
  |none=>False):cI P N ids o K B k:=by
 have m1:x∈o.op.operands:=aw7
 split at h
 .rename_i d n H
  have⟨fs,jX,i,ci,uC,JL,aG,aR⟩: ∃fs jX i,P.underlying T=some (.struct fs)/\fs[f]? =some jX/\jX.offset=d/\P.info? jX.type=some i/\i.size≠0:=by
   unfold Jn at H
   split at H
   .rename_i ti gK
    split at H
    .rename_i Z;obtain⟨i,tB,bz⟩:=bl.at_ gK;obtain⟨fs,a8,rfl⟩:=bz.st Z;obtain⟨jX,PQ,E,G,al,aW,bG⟩:=PF _ _ (bz.mP fs rfl) f d n H;exact⟨fs,jX,PQ,a8,by simpa using E,G,al,by rw[aW];exact bG⟩
    .cases H
   .cases H
  split at h
  .rename_i c p J;exact cI.of h <| bB.one J m1 fun K' ρ I a w au af=>⟨_,Ff (au.ptr af) ag ci uC JL aG aR,rfl⟩
  .rename_i u y p J;refine cI.of h <| bB.one J m1 fun K' ρ I a w au af=>?_
   obtain⟨b,q,e,G⟩:=au.ev af;exact⟨_,Ff e ag ci uC JL aG aR,b,q,by rw[Nat.add_assoc],G⟩
  .rename_i c s j p J;exact cI.of h <| bB.one J m1 fun K' ρ I a w au af=>⟨_,Ff (au.gj af) ag ci uC JL aG aR,by simp only[cx,gI,d1];rw[Nat.add_assoc]⟩
  .exact h.elim
 .exact h.elim
theorem Fg {ρ:Nat->bo} {I:Nat->Prop} {w:World} {u:bA} {y:aa u} {c:Nat->Option Value} (aD:cq I w u y c): ∀(n p:Nat),p+n<=aS u-> ∃aE,cc ρ I w (gr u y p n) aE/\ ∀(j:Nat) (v:Value),aE[j]? =some v->c (p+j)=some v
 |0,p,_=>⟨[],rfl,fun j v h=>by simp at h⟩
 |n+1,p,h=>by
  obtain⟨v,E,G⟩:=cq.cell u y c p aD aw0;obtain⟨aE,al,aW⟩:=Fg aD n (p+1) aw0;refine⟨v::aE,⟨v,aE,rfl,G,al⟩,fun j da V=>?_⟩
  match j with
  |0=>simp only[ar9,aq8] at V;subst V;exact E
  |j+1=>rw[show p+(j+1)=p+1+j by omega];exact aW j da ay0
theorem tC (u:bA) (y:aa u): ∀(n p:Nat),(gr u y p n).length=n
 |0,_=>rfl
 |n+1,p=>by simp[gr,tC u y n]
theorem zL (u:bA) (y:aa u): ∀(n p i:Nat),i < n->(gr u y p n)[i]? =some (.d (fM u y (p+i)))
 |0,p,i,h=>by omega
 |n+1,p,0,h=>rfl
 |n+1,p,i+1,h=>by
  have:=zL u y n (p+1) i aw0;rw[show p+1+i=p+(i+1) by omega] at this;simpa[gr] using this
theorem BV {ρ:Nat->bo} {I:Nat->Prop} {w:World} {u:bA} {y:aa u} (hw:oS u y) {aE:List Value} (h:cc ρ I w (gr u y 0 (aS u)) aE):cq I w u y (fun j=>aE[j]?):=
 cq.mk u y _ hw fun j V=>by
  have aY:=zL u y (aS u) 0 j V;rw[Nat.zero_add] at aY;obtain⟨v,af,ao⟩:=cc.get _ _ h j _ aY;exact⟨v,af,ao⟩
theorem Fh {T:TypeId} {x:Operand} (ag:o.op= .load T x) {ti:b8} {i:TypeInfo} {d:TypeDesc} (bz:ml P T ti i d) {u:bA} {y:aa u} {p:Nat} {a:Act} {w:World} {I:Nat->Prop} {ρ:Nat->bo} {b q:Nat}
  (U:a.eval x= .pointer (some ⟨b,q+p,none⟩)) (aD:cq I w u y (fun j=>w.cell? ⟨b,q+j,none⟩)):
  (ti.row=true->p+ti.size<=aS u-> ∃r,(execOp a.eval o).run P w= .ok (.value r) w/\cx ρ I w (.c (.agg (gr u y p ti.size))) r)/\
  (ti.row=false->p < aS u-> ∃r,(execOp a.eval o).run P w= .ok (.value r) w/\cx ρ I w (.c (.one (.d (fM u y p)))) r):=by
 constructor
 .intro aC fZ;obtain⟨aE,E,G⟩:=Fg (ρ:=ρ) aD ti.size p fZ;refine⟨_,Fe (cs:=aE) ag U bz.n0 (bz.row.trans aC) bz.jW (by rw[cc.length _ _ E,tC];exact bz.size) (fun j v V=>?_),aE,rfl,E⟩;rw[Nat.add_assoc];exact G j v V
 .intro aC bx;obtain⟨v,E,G⟩:=cq.cell u y _ p aD bx;exact⟨v,Fd ag U bz.n0 (bz.row.trans aC) E,G⟩
theorem YW {ρ:Nat->bo} {I F:Nat->Prop} {w:World} {p:bo} {e:TypeId} {u:bA} {xs:List (aa u)} (h:Holds ρ I F w p (.row e u xs)) {i:Nat} {y:aa u} (aD:fz xs i=some y):
  cq I w u y (fun j=>w.cell? ⟨p.bh,i*aS u+j,none⟩):=by
 obtain⟨E,G,cs,al,aW⟩:=h;refine cq.mono (cj.refl _ _) u y _ _ (fun j v V=>?_) (aW i y aD);have V:cs[i*aS u+j]? =some v:=V;have hx:=BI aD;have BW:=al;obtain⟨ap,al⟩:=al;rcases al with⟨_,av⟩ |⟨g,cap,df,aA,_,aY,_,_,_,cn⟩
 .omega
 .have O:p.eK.ownBlock=some g:=by rw[aA];rfl
  rw[<-G g O];have:=BW.cells O (i*aS u+j) v V
  rwa[qk,Nat.zero_add] at this
theorem YX (bl:eh P aU) {T:TypeId} {x:Operand} (ag:o.op= .load T x) (h:match aU.find T with
  |some ti=>match a7 K x with
   | .c (.one (.ptr c o))=>match aj B c with
    |some (.cells l)=>match ti.row with
     |true=>match Nat.ble (o+ti.size) l.length with
      |true=>pJ ((l.drop o).take ti.size) fun l=>k (.c (.agg l)) ⟨[c],[],[]⟩
      |false=>False
     |false=>match l[o]? with
      |some s=>zz s fun s=>k (.c (.one s)) ⟨[c],[],[]⟩
      |none=>False
    |_=>False
   | .c (.one (.el u y o))=>match ti.row with
    |true=>match Nat.ble (o+ti.size) (aS u) with
     |true=>pJ (gr u y o ti.size) fun l=>k (.c (.agg l)) bJ
     |false=>False
    |false=>match Nat.blt o (aS u) with
     |true=>zy (fM u y o) fun x=>k (.c (.one (.d x))) bJ
     |false=>False
   | .c (.one (.gj c s i o))=>match aj B c with
    |some (.row _ u xs)=>match Nat.beq s (aS u) with
     |true=> ∃y,fz xs i=some y/\match ti.row with
      |true=>match Nat.ble (o+ti.size) (aS u) with
       |true=>pJ (gr u y o ti.size) fun l=>k (.c (.agg l)) ⟨[c],[],[]⟩
       |false=>False
      |false=>match Nat.blt o (aS u) with
       |true=>zy (fM u y o) fun x=>k (.c (.one (.d x))) ⟨[c],[],[]⟩
       |false=>False
     |false=>False
    |_=>False
   |_=>False
  |none=>False):cI P N ids o K B k:=by
 have m1:x∈o.op.operands:=aw7
 split at h
 .rename_i ti gK;obtain⟨i,d,bz⟩:=bl.at_ gK
  split at h
  .rename_i c p J
   split at h
   .rename_i l ap
    have key: ∀(K':aX) (B':ay),(∀x,x∈o.op.operands->a7 K' x=a7 K x)->(∀d,d∈ [c]->aj B' d=aj B d)-> ∀(C:fi) (ρ:Nat->bo) (F:Nat->Nat->Prop) (a:Act) (w:World),Mem ids C B' ρ F w->ey K' ρ (b5 C B' F w) a w->
      a.eval x= .pointer (some ⟨(ρ c).bh,p,none⟩)/\ ∃aE T,w.heap[(ρ c).bh]? =some (.cells (List.toArray aE) T (0,0))/\cc ρ (b5 C B' F w) w l aE:=fun K' B' E G C ρ F a w ar au=>by
     have bj:=ar.holds c _ ((G c aw2).trans ap);exact⟨au.ptr ((E x m1).trans J),bj.2⟩
    split at h
    .rename_i aC
     split at h
     .rename_i fZ;have fZ:=Nat.le_of_ble_eq_true fZ;rw[zA] at h;refine cI.of h <| bB.val fun K' B' E G C ρ F a w ar au=>?_
      obtain⟨af,aE,e3,O,H⟩:=key K' B' E G C ρ F a w ar au;have kX:=cc.Fc ti.size _ _ (cc.rt p _ _ H);refine⟨_,Fe (cs:=(aE.drop p).take ti.size) ag af bz.n0 (bz.row.trans aC) bz.jW ?_ (fun j u V=>?_),_,rfl,kX⟩
      .rw[cc.length _ _ kX,ar3,au3,bz.size];omega
      .rw[List.getElem?_take] at V
       split at V
       .rw[List.getElem?_drop] at V;exact oZ O V
       .cases V
     .exact h.elim
    .rename_i aC
     split at h
     .rename_i s ax;rw[I6] at h;refine cI.of h <| bB.val fun K' B' E G C ρ F a w ar au=>?_
      obtain⟨af,aE,e3,O,H⟩:=key K' B' E G C ρ F a w ar au;obtain⟨v,aA,kX⟩:=cc.get _ _ H p s ax;exact⟨v,Fd ag af bz.n0 (bz.row.trans aC) (oZ O aA),kX⟩
     .exact h.elim
   .exact h.elim
  .rename_i u y p J
   split at h
   .rename_i aC
    split at h
    .rename_i fZ;rw[zA] at h;refine cI.of h <| bB.one J m1 fun K' ρ I a w au af=>?_
     obtain⟨b,q,e,_,aD⟩:=au.ev af;exact(Fh ag bz e aD).1 aC (Nat.le_of_ble_eq_true fZ)
    .exact h.elim
   .rename_i aC
    split at h
    .rename_i bx;rw[I5] at h;refine cI.of h <| bB.one J m1 fun K' ρ I a w au af=>?_
     obtain⟨b,q,e,_,aD⟩:=au.ev af;exact(Fh ag bz e aD).2 aC (by simpa[Nat.blt_eq] using bx)
    .exact h.elim
  .rename_i c s j p J
   split at h
   .rename_i e u xs ap
    split at h
    .rename_i ax;have ax:=ar0 ax;subst ax;obtain⟨y,aD,h⟩:=h
     have key: ∀(K':aX) (B':ay),(∀x,x∈o.op.operands->a7 K' x=a7 K x)->(∀d,d∈ [c]->aj B' d=aj B d)-> ∀(C:fi) (ρ:Nat->bo) (F:Nat->Nat->Prop) (a:Act) (w:World),Mem ids C B' ρ F w->ey K' ρ (b5 C B' F w) a w->
       a.eval x= .pointer (some ⟨(ρ c).bh,j*aS u+p,none⟩)/\cq (b5 C B' F w) w u y (fun i=>w.cell? ⟨(ρ c).bh,j*aS u+i,none⟩):=fun K' B' E G C ρ F a w ar au=>
      ⟨au.gj ((E x m1).trans J),YW (ar.holds c _ ((G c aw2).trans ap)) aD⟩
     split at h
     .rename_i aC
      split at h
      .rename_i fZ;rw[zA] at h;refine cI.of h <| bB.val fun K' B' E G C ρ F a w ar au=>?_
       obtain⟨af,ao⟩:=key K' B' E G C ρ F a w ar au;exact(Fh ag bz af ao).1 aC (Nat.le_of_ble_eq_true fZ)
      .exact h.elim
     .rename_i aC
      split at h
      .rename_i bx;rw[I5] at h;refine cI.of h <| bB.val fun K' B' E G C ρ F a w ar au=>?_
       obtain⟨af,ao⟩:=key K' B' E G C ρ F a w ar au;exact(Fh ag bz af ao).2 aC (by simpa[Nat.blt_eq] using bx)
      .exact h.elim
    .exact h.elim
   .exact h.elim
  .exact h.elim
 .exact h.elim
end
end
end Go.Proofs.YtkfbeijmgggkmaaGreat
