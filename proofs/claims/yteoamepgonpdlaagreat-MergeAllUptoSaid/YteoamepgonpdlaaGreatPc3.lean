/-
Part 3 of the proof that stands in YteoamepgonpdlaaGreatPcRow, with what it needs from the parts ahead; the parts of this text: Snd.
-/
import Derived.Deep.MidRow
import Derived.Test.YteoamepgonpdlaaGreatPc2
set_option linter.unusedVariables false
set_option linter.unusedSimpArgs false
set_option maxRecDepth 10000
namespace Go.Proofs.YteoamepgonpdlaaGreat
open Go.RowKit
def s5:Option TypeDesc→KW→Bool
 |some (.int k),.int k'=>l9 k k'
 |some .bool,.bool=>true
 |some .string,.str=>true
 |some (.pointer e),.ptr e'=>Nat.beq e e'
 |some (.slice e),.sl e'=>Nat.beq e e'
 |some (.struct _),.st=>true
 |some (.array n e),.arr xj e'=>Nat.beq n xj&&Nat.beq e e'
 |some (.map k e),.mp k' e'=>Nat.beq k k'&&Nat.beq e e'
 |some (.func _ _ _),.other=>true
 |_,_=>false
def Gk:Value→bD→Bool
 | .int k n,.d (.int k' xj)=>l9 k k'&&decide (n=xj)
 | .bool b,.d (.lit e5)=>b == e5
 | .string s,.d (.str l)=>decide (s.data.toList=l)
 | .slice none 0 0,.ec=>true
 | .pointer none,.raw (.pointer none)=>true
 | .map none,.raw (.map none)=>true
 | .nilFunc,.raw .nilFunc=>true
 |_,_=>false
def s6:List Value→List bD→Bool
 | [],[]=>true
 |v::vs,s::l=>Gk v s&&s6 vs l
 |_,_=>false
def q5 (P:Program):List Field→List (Nat×Nat)→Bool
 | [],[]=>true
 |f::fs,(d,n)::l=>Nat.beq f.offset d&&(match P.info? f.type with
  |some i=>Nat.beq i.size n
  |none=>false)&& !Nat.beq n 0&&q5 P fs l
 |_,_=>false
def K4:Value→Bool→Bool
 | .agg _,false=>false
 |_,_=>true
def Gl (P:Program) (T:Nat) (ti:cB):Bool:=match P.info? T,P.underlying T with
 |some i,some d=>Nat.beq i.size ti.size&&Nat.beq i.bytes ti.bytes&&(d.isRow == ti.row)&&s5 (some d) ti.cL&&(match i.zero with
  |some z=>s6 z.cells.toList ti.zero&&K4 z d.isRow
  |none=>false)&&(match d with
  | .struct fs=>q5 P fs.toList ti.mM
  |_=>true)&&Nat.ble ti.bytes 32768&&(match ti.u with
  |some u=>Nat.beq (aM u) ti.size
  |none=>true)&& !Nat.beq ti.size 0&&Nat.beq ti.zero.length ti.size
 |_,_=>false
def cY.all (p:Nat→cB→Bool):cY→Bool
 | .leaf=>true
 | .node l k x r=>l.all p&&p k x&&r.all p
theorem cY.Gm {p:Nat→cB→Bool}: ∀(t:cY),t.all p=true→ ∀T ti,t.find T=some ti→p T ti=true
 | .leaf,_,T,ti,h=>by simp[cY.find] at h
 | .node l k x r,ha,T,ti,h=>by
  simp only[cY.all,Bool.and_eq_true] at ha
  unfold cY.find at h
  split at h
  ·exact cY.Gm l ha.1.1 T ti h
  ·split at h
   ·rename_i e
    have:=Nat.eq_of_beq_eq_true e
    injection h with h
    subst this h
    exact ha.1.2
   ·exact cY.Gm r ha.2 T ti h
def dQ (P:Program) (tt:cY):Prop:= ∀T ti,tt.find T=some ti→Gl P T ti=true
theorem dQ.of {P:Program} {tt:cY} (h:tt.all (Gl P)=true):dQ P tt:=cY.Gm tt h
theorem nW {i j:IntKind} (h:l9 i j=true):i=j:=by cases i <;>cases j <;>first |rfl |(simp[l9] at h)
structure mg (P:Program) (T:Nat) (ti:cB) (i:TypeInfo) (d:TypeDesc):Prop where
 info:P.info? T=some i
 und:P.underlying T=some d
 size:i.size=ti.size
 bytes:i.bytes=ti.bytes
 row:d.isRow=ti.row
 cL:s5 (some d) ti.cL=true
 zero: ∃z,i.zero=some z∧s6 z.cells.toList ti.zero=true
 mM: ∀fs,d= .struct fs→q5 P fs.toList ti.mM=true
 small:ti.bytes≤32768
 u: ∀u,ti.u=some u→aM u=ti.size
 pos:ti.size≠0
 Gn:ti.zero.length=ti.size
 K5: ∀z,i.zero=some z→d.isRow=false→z.cells= #[z]
theorem dQ.at_ {P:Program} {tt:cY} (h:dQ P tt) {T:Nat} {ti:cB} (hf:tt.find T=some ti): ∃i d,mg P T ti i d:=by
 have hc:=h T ti hf
 unfold Gl at hc
 split at hc
 ·rename_i i d aD hd
  simp only[Bool.and_eq_true,Bool.not_eq_true',beq_iff_eq] at hc
  obtain⟨⟨⟨⟨⟨⟨⟨⟨⟨aa,af⟩,ay⟩,bu⟩,dI⟩,kr⟩,xk⟩,kL⟩,rX⟩,AP⟩:=hc
  refine⟨i,d,aD,hd,Nat.eq_of_beq_eq_true aa,Nat.eq_of_beq_eq_true af,ay,bu,?_,?_,Nat.le_of_ble_eq_true xk,?_,fun e=>by rw[e] at rX;simp at rX,Nat.eq_of_beq_eq_true AP,?_⟩
  ·split at dI
   ·rename_i z aS
    exact⟨z,aS,(Bool.and_eq_true _ _▸dI).1⟩
   ·cases dI
  ·rintro fs rfl
   exact kr
  ·intro u hu
   rw[hu] at kL
   exact Nat.eq_of_beq_eq_true kL
  ·intro z aS hr
   rw[aS] at dI
   simp only[Bool.and_eq_true] at dI
   have dI:=dI.2
   rw[hr] at dI
   cases z <;>first |rfl |(simp[K4] at dI)
 ·cases hc
theorem mg.sl {P:Program} {T:Nat} {ti:cB} {i:TypeInfo} {d:TypeDesc} (h:mg P T ti i d) {e:Nat} (aq:ti.cL= .sl e):P.underlying T=some (.slice e):=by
 have:=h.cL
 rw[aq] at this
 rw[h.und]
 cases d <;>simp[s5] at this⊢
 exact this
theorem mg.str {P:Program} {T:Nat} {ti:cB} {i:TypeInfo} {d:TypeDesc} (h:mg P T ti i d) (aq:ti.cL= .str):P.underlying T=some .string:=by
 have:=h.cL
 rw[aq] at this
 rw[h.und]
 cases d <;>simp[s5] at this⊢
theorem mg.int {P:Program} {T:Nat} {ti:cB} {i:TypeInfo} {d:TypeDesc} (h:mg P T ti i d) {k:IntKind} (aq:ti.cL= .int k):P.underlying T=some (.int k):=by
 have:=h.cL
 rw[aq] at this
 rw[h.und]
 cases d <;>simp[s5] at this⊢
 exact nW this
theorem mg.ptr {P:Program} {T:Nat} {ti:cB} {i:TypeInfo} {d:TypeDesc} (h:mg P T ti i d) {e:Nat} (aq:ti.cL= .ptr e):P.underlying T=some (.pointer e):=by
 have:=h.cL
 rw[aq] at this
 rw[h.und]
 cases d <;>simp[s5] at this⊢
 exact this
theorem mg.st {P:Program} {T:Nat} {ti:cB} {i:TypeInfo} {d:TypeDesc} (h:mg P T ti i d) (aq:ti.cL= .st): ∃fs,P.underlying T=some (.struct fs)∧d= .struct fs:=by
 have:=h.cL
 rw[aq] at this
 rw[h.und]
 cases d <;>simp[s5] at this⊢
theorem K6 {P:Program}: ∀(fs:List Field) (l:List (Nat×Nat)),q5 P fs l=true→ ∀(f d n:Nat),l[f]? =some (d,n)→ ∃fd i,fs[f]? =some fd∧fd.offset=d∧P.info? fd.type=some i∧i.size=n∧n≠0
 | [],[],_,f,d,n,h=>by simp at h
 |g::fs,(a,b)::l,az,0,d,n,h=>by
  simp only[q5,Bool.and_eq_true,Bool.not_eq_true'] at az
  simp only[List.getElem?_cons_zero,Option.some.injEq,Prod.mk.injEq] at h
  obtain⟨rfl,rfl⟩:=h
  obtain⟨⟨⟨aa,af⟩,ay⟩,_⟩:=az
  split at af
  ·rename_i i aD
   exact⟨g,i,rfl,Nat.eq_of_beq_eq_true aa,aD,Nat.eq_of_beq_eq_true af,fun e=>by subst e;simp at ay⟩
  ·cases af
 |g::fs,(a,b)::l,az,f+1,d,n,h=>by
  simp only[q5,Bool.and_eq_true] at az
  simpa using K6 fs l az.2 f d n (by simpa using h)
 | [],_::_,az,_,_,_,_=>by simp[q5] at az
 |_::_,[],az,_,_,_,_=>by simp[q5] at az
section
variable {P:Program} {tt:cY} {N:Nat} {ids:List Nat} {o:Oper} {K:aQ} {B:aG}
theorem bH.val {v:aO} {rc:List Nat} (h: ∀(K':aQ) (B':aG),(∀x,x∈o.op.operands→aU K' x=aU K x)→(∀c,c∈rc→ax B' c=ax B c)→
  ∀(C:Ctx) (ρ:Nat→bq) (F:Nat→Nat→Prop) (a:Act) (w:World),Mem ids C B' ρ F w→ek K' ρ (bO C B' F w) a w→ ∃x,(execOp a.eval o).run P w= .ok (.value x) w∧b8 ρ (bO C B' F w) w v x):
  bH P N ids o K B v ⟨rc,[],[]⟩:=by
 rintro K' B' aa af - C a w ⟨hn,hd,ρ,F,aA,hS⟩ bF fl Q hK
 obtain⟨x,hx,hv⟩:=h K' B' aa af C ρ F a w aA hS
 unfold Oper.wp
 rw[hx,Oper.upon_value]
 exact hK _ _ ⟨lC.trans hn,put_defers.trans hd,ρ,F,aA,hS.lD (fun e he=>by rw[hn];exact bF e he) hv⟩
theorem bH.new {v:aO} {rc:List Nat} (h: ∀(K':aQ) (B':aG),(∀x,x∈o.op.operands→aU K' x=aU K x)→(∀c,c∈rc→ax B' c=ax B c)→
  ∀(C:Ctx) (ρ:Nat→bq) (F:Nat→Nat→Prop) (a:Act) (w:World),Mem ids C B' ρ F w→ek K' ρ (bO C B' F w) a w→ ∃x w',(execOp a.eval o).run P w= .ok (.value x) w'∧Below w.heap.size w w'∧
   (∀I:Nat→Prop,Ext (bO C B' F w) w I w'→(∀b,w.heap.size≤b→b < w'.heap.size→I b)→b8 ρ I w' v x)):
  bH P N ids o K B v ⟨rc,[],[]⟩:=by
 rintro K' B' aa af - C a w ⟨hn,hd,ρ,F,aA,hS⟩ bF fl Q hK
 obtain⟨x,w',hx,ag,hv⟩:=h K' B' aa af C ρ F a w aA hS
 obtain⟨bR,he⟩:=aA.below ag
 unfold Oper.wp
 rw[hx,Oper.upon_value]
 refine hK _ _ ⟨lC.trans hn,put_defers.trans hd,ρ,F,bR,(hS.mono he fun _ _ _=>rfl).lD (fun e he=>by rw[hn];exact bF e he) (hv _ he fun b aa af=>⟨af,?_,fun c ch hc hF=>?_⟩)⟩
 ·exact .inr (.inr (aA.fresh aa))
 ·have:=(aA.own c ch hc b hF).1;omega
section
variable {K':aQ} {ρ:Nat→bq} {I:Nat→Prop} {a:Act} {w:World} {x:Operand}
theorem ek.ev (hS:ek K' ρ I a w) {s:aO} (h:aU K' x=s):b8 ρ I w s (a.eval x):=h▸hS.get x
theorem ek.int (hS:ek K' ρ I a w) {k:IntKind} {n:Int} (h:aU K' x= .c (.one (.d (.int k n)))):a.eval x= .int k n:=hS.ev h
theorem ek.lit (hS:ek K' ρ I a w) {b:Bool} (h:aU K' x= .c (.one (.d (.lit b)))):a.eval x= .bool b:=hS.ev h
theorem ek.bool (hS:ek K' ρ I a w) {b:Bool} (h:aU K' x= .c (.one (.d (.bool b)))):a.eval x= .bool b:=hS.ev h
theorem ek.str (hS:ek K' ρ I a w) {s:List UInt8} (h:aU K' x= .c (.one (.d (.str s)))):a.eval x= .string ⟨s.toArray⟩:=hS.ev h
theorem ek.ptr (hS:ek K' ρ I a w) {c o:Nat} (h:aU K' x= .c (.one (.ptr c o))):a.eval x= .pointer (some ⟨(ρ c).bI,o,none⟩):=hS.ev h
theorem ek.fk (hS:ek K' ρ I a w) {c s i o:Nat} (h:aU K' x= .c (.one (.fk c s i o))):a.eval x= .pointer (some ⟨(ρ c).bI,i*s+o,none⟩):=hS.ev h
theorem ek.os (hS:ek K' ρ I a w) {c s o n:Nat} (h:aU K' x= .c (.one (.os c s o n))):a.eval x= .slice (if(ρ c).cap=o then(ρ c).A else(ρ c).A.map (·.add (o*s))) n ((ρ c).cap - o):=hS.ev h
theorem ek.raw (hS:ek K' ρ I a w) {v:Value} (h:aU K' x= .c (.one (.raw v))):a.eval x=v:=hS.ev h
theorem ek.own (hS:ek K' ρ I a w) {c:Nat} (h:aU K' x= .c (.one (.own c))):a.eval x=(ρ c).hdr:=hS.ev h
theorem ek.ec (hS:ek K' ρ I a w) (h:aU K' x= .c (.one .ec)):a.eval x= .slice none 0 0:=hS.ev h
theorem ek.cT (hS:ek K' ρ I a w) {u:U} {xs:List (aI u)} (h:aU K' x= .c (.one (.d (.cT u xs)))):b7 I w (.sl u) xs (fun _=>some (a.eval x)):=hS.ev h
end
theorem yW {k:IntKind} {n:Int} (h:vN k n):k.wrap n=n:=by
 cases k <;>simp only[vN] at h <;>simp[IntKind.wrap,IntKind.bits,IntKind.signed] <;>omega
theorem yX {x y:Operand} {op:BinOp} {T gG:TypeId}:x∈(Op.binOp op T x y gG).operands∧y∈(Op.binOp op T x y gG).operands:=by simp[Op.operands]
theorem toList_mk (l:List UInt8):(⟨l.toArray⟩:ByteArray).toList=l:=by rw[ByteArray.toList_eq]
theorem xl (l:List UInt8):(⟨l.toArray⟩:ByteArray).size=l.length:=by simp[ByteArray.size]
theorem Gp {op:BinOp} {T gG:TypeId} {x y:Operand} {a:Act} {w:World} {k:IntKind} {n m r:Int} (az:o.op= .binOp op T x y gG) (aa:a.eval x= .int k n) (af:a.eval y= .int k m)
  (h:(op= .add∧r=n+m)∨(op= .sub∧r=n - m)∨(op= .mul∧r=n*m)) (hr:vN k r):(execOp a.eval o).run P w= .ok (.value (.int k r)) w:=by
 simp only[execOp,az,aa,af]
 rcases h with⟨rfl,rfl⟩ |⟨rfl,rfl⟩ |⟨rfl,rfl⟩ <;>simp[eqGuard,go_sem,yW hr,Op.intArith]
theorem K7 {op:BinOp} {T gG:TypeId} {x y:Operand} {a:Act} {w:World} {k:IntKind} {n m r:Int} (az:o.op= .binOp op T x y gG) (aa:a.eval x= .int k n) (af:a.eval y= .int k m)
  (hn:0≤n) (hm:0 < m) (h:(op= .quo∧r=n/m)∨(op= .rem∧r=n % m)) (hr:vN k r):(execOp a.eval o).run P w= .ok (.value (.int k r)) w:=by
 have AQ:m≠0:=by omega
 simp only[execOp,az,aa,af]
 rcases h with⟨rfl,rfl⟩ |⟨rfl,rfl⟩
 ·have e:n.tdiv m=n/m:=Int.tdiv_eq_ediv_of_nonneg hn
  simp[eqGuard,go_sem,Op.intDiv,AQ,e,yW hr]
 ·have e:n.tmod m=n % m:=Int.tmod_eq_emod_of_nonneg hn
  simp[eqGuard,go_sem,Op.intDiv,AQ,e]
theorem yY {op:BinOp} {T gG:TypeId} {x y:Operand} {a:Act} {w:World} {k:IntKind} {n m:Int} {b:Bool} (az:o.op= .binOp op T x y gG) (aa:a.eval x= .int k n) (af:a.eval y= .int k m)
  (h:(op= .eql∧b=decide (n=m))∨(op= .neq∧b= !decide (n=m))∨(op= .lss∧b=decide (n < m))∨(op= .leq∧b=decide (n≤m))∨(op= .gtr∧b=decide (m < n))∨(op= .geq∧b=decide (m≤n))):
  (execOp a.eval o).run P w= .ok (.value (.bool b)) w:=by
 simp only[execOp,az,aa,af]
 rcases h with⟨rfl,rfl⟩ |⟨rfl,rfl⟩ |⟨rfl,rfl⟩ |⟨rfl,rfl⟩ |⟨rfl,rfl⟩ |⟨rfl,rfl⟩
 all_goals
  simp[eqGuard,go_sem,Op.intCmp]
 all_goals
  by_cases e:n=m <;>simp[e]
theorem K8 {op:BinOp} {T gG:TypeId} {x y:Operand} {a:Act} {w:World} {k er:IntKind} {n m r:Int} (az:o.op= .binOp op T x y gG) (aa:a.eval x= .int k n) (af:a.eval y= .int er m)
  (hn:0≤n) (hm:0≤m) (ag:m.toNat≤k.bits) (h:(op= .shl∧r=n*(2 ^m.toNat:Nat))∨(op= .shr∧r=n/(2 ^m.toNat:Nat))) (hr:op= .shl→vN k r):(execOp a.eval o).run P w= .ok (.value (.int k r)) w:=by
 have AQ: ¬m < 0:=by omega
 have bx:min m.toNat k.bits=m.toNat:=by omega
 simp only[execOp,az,aa,af]
 rcases h with⟨rfl,rfl⟩ |⟨rfl,rfl⟩
 ·have e:=yW (hr rfl)
  simp only[Int.natCast_pow,Int.cast_ofNat_Int] at e⊢
  have hs:Op.shift .shl k n er m=pure (.int k (n*2 ^m.toNat)):=by
   unfold Op.shift
   rw[if_neg AQ,bx]
   simp only
   rw[e]
  simp only[eqGuard,binOp,hs]
  simp[go_sem]
 ·have e:n.fdiv (2 ^m.toNat)=n/(2 ^m.toNat):=by rw[Int.fdiv_eq_ediv_of_nonneg];exact Int.pow_nonneg (by decide)
  simp only[Int.natCast_pow,Int.cast_ofNat_Int]
  have hs:Op.shift .shr k n er m=pure (.int k (n/2 ^m.toNat)):=by
   unfold Op.shift
   rw[if_neg AQ,bx]
   simp only
   rw[e]
  simp only[eqGuard,binOp,hs]
  simp[go_sem]
theorem yZ {op:BinOp} {T gG:TypeId} {x y:Operand} {a:Act} {w:World} {s t:List UInt8} {b:Bool} (az:o.op= .binOp op T x y gG) (aa:a.eval x= .string ⟨s.toArray⟩) (af:a.eval y= .string ⟨t.toArray⟩)
  (h:(op= .eql∧b=decide (s=t))∨(op= .neq∧b= !decide (s=t))∨(op= .lss∧b=Op.bytesLess s t)∨(op= .leq∧b=(Op.bytesLess s t||decide (s=t)))∨(op= .gtr∧b= !(Op.bytesLess s t||decide (s=t)))∨(op= .geq∧b= !Op.bytesLess s t)):
  (execOp a.eval o).run P w= .ok (.value (.bool b)) w:=by
 have e:(s == t)=decide (s=t):=by by_cases e:s=t <;>simp[e]
 simp only[execOp,az,aa,af]
 rcases h with⟨rfl,rfl⟩ |⟨rfl,rfl⟩ |⟨rfl,rfl⟩ |⟨rfl,rfl⟩ |⟨rfl,rfl⟩ |⟨rfl,rfl⟩ <;>simp[eqGuard,go_sem,Op.stringOp,toList_mk,e]
theorem RC (s t:List UInt8):(⟨s.toArray⟩:ByteArray)++⟨t.toArray⟩=⟨(s++t).toArray⟩:=by
 have:((⟨s.toArray⟩:ByteArray)++⟨t.toArray⟩).data=(s++t).toArray:=by
  simp[ByteArray.data_append]
 cases h:(⟨s.toArray⟩:ByteArray)++⟨t.toArray⟩
 rw[h] at this
 simp only at this
 rw[this]
theorem RD {T gG:TypeId} {x y:Operand} {a:Act} {w:World} {s t:List UInt8} (az:o.op= .binOp .add T x y gG) (aa:a.eval x= .string ⟨s.toArray⟩) (af:a.eval y= .string ⟨t.toArray⟩)
  (h:s.length+t.length≤4294967296):(execOp a.eval o).run P w= .ok (.value (.string ⟨(s++t).toArray⟩)) w:=by
 simp only[execOp,az,aa,af]
 have hn: ¬(((s.length+t.length:Nat):Int) >IntKind.i64.max):=by
  have:IntKind.i64.max=9223372036854775807:=by decide
  omega
 simp only[eqGuard,binOp,Op.stringOp,xl,RC]
 rw[if_neg hn]
 simp[go_sem]
end
end Go.Proofs.YteoamepgonpdlaaGreat
namespace Go.Proofs.YteoamepgonpdlaaGreat
open Go.RowKit
section
variable {P:Program} {tt:cY} {N:Nat} {ids:List Nat} {o:Oper} {K:aQ} {B:aG} {k:aO→fA→Prop}
theorem bH.one {x:Operand} {AR v:aO} (hx:aU K x=AR) (hm:x∈o.op.operands)
  (h: ∀(K':aQ) (ρ:Nat→bq) (I:Nat→Prop) (a:Act) (w:World),ek K' ρ I a w→aU K' x=AR→ ∃r,(execOp a.eval o).run P w= .ok (.value r) w∧b8 ρ I w v r):bH P N ids o K B v bx:=
 bH.val fun K' B' aa af C ρ F a w aA hS=>h K' ρ _ a w hS ((aa x hm).trans hx)
theorem bH.two {x y:Operand} {AR K9 v:aO} (hx:aU K x=AR) (aF:aU K y=K9) (hm:x∈o.op.operands) (hn:y∈o.op.operands)
  (h: ∀(K':aQ) (ρ:Nat→bq) (I:Nat→Prop) (a:Act) (w:World),ek K' ρ I a w→aU K' x=AR→aU K' y=K9→ ∃r,(execOp a.eval o).run P w= .ok (.value r) w∧b8 ρ I w v r):bH P N ids o K B v bx:=
 bH.val fun K' B' aa af C ρ F a w aA hS=>h K' ρ _ a w hS ((aa x hm).trans hx) ((aa y hn).trans aF)
theorem RE {a b:Int} (aa:0≤a) (af:a≤9223372036854775807) (ay:0≤b) (bu:b≤9223372036854775807):
  IntKind.i64.wrap (((BitVec.ofInt 64 a ||| BitVec.ofInt 64 b).toNat:Nat):Int)=((a.toNat ||| b.toNat:Nat):Int):=by
 have aj:(BitVec.ofInt 64 a).toNat=a.toNat:=by rw[BitVec.toNat_ofInt];omega
 have ak:(BitVec.ofInt 64 b).toNat=b.toNat:=by rw[BitVec.toNat_ofInt];omega
 rw[BitVec.toNat_or,aj,ak]
 have h:a.toNat ||| b.toNat < 2 ^63:=Nat.or_lt_two_pow (by omega) (by omega)
 exact yW (by simp only[vN];omega)
theorem La {op:BinOp} {T gG:TypeId} {x y:Operand} (az:o.op= .binOp op T x y gG)
  (hp:(∃e,P.underlying T=some (.pointer e))∨ ∀c d,aU K x≠ .c (.one (.ptr c d))∧aU K x≠ .c (.one (.raw (.pointer none))))
  (h:C0 op (aU K x) (aU K y) k): ∃v,k v bx∧bH P N ids o K B v bx:=by
 have m1:x∈o.op.operands:=by rw[az];exact yX.1
 have m2:y∈o.op.operands:=by rw[az];exact yX.2
 unfold C0 at h
 split at h
 ·rename_i i a j b hx aF
  have two: ∀(v:aO) (hv:i=j→ ∀(K':aQ) (ρ:Nat→bq) (I:Nat→Prop) (ac:Act) (w:World),ac.eval x= .int i a→ac.eval y= .int i b→ ∃r,(execOp ac.eval o).run P w= .ok (.value r) w∧b8 ρ I w v r),l9 i j=true→bH P N ids o K B v bx:=fun v hv fG=>
   bH.two hx aF m1 m2 fun K' ρ I ac w hS aj ak=>hv (nW fG) K' ρ I ac w (hS.int aj) (by rw[nW fG];exact hS.int ak)
  have sh: ∀(v:aO) (hv: ∀(K':aQ) (ρ:Nat→bq) (I:Nat→Prop) (ac:Act) (w:World),ac.eval x= .int i a→ac.eval y= .int j b→ ∃r,(execOp ac.eval o).run P w= .ok (.value r) w∧b8 ρ I w v r),bH P N ids o K B v bx:=fun v hv=>
   bH.two hx aF m1 m2 fun K' ρ I ac w hS aj ak=>hv K' ρ I ac w (hS.int aj) (hS.int ak)
  split at h
  ·rename_i fG;have h:=xd h;exact⟨_,h.2,two _ (fun _ K' ρ I ac w aa af=>⟨_,Gp az aa af (.inl ⟨rfl,rfl⟩) h.1,rfl⟩) fG⟩
  ·rename_i fG;have h:=xd h;exact⟨_,h.2,two _ (fun _ K' ρ I ac w aa af=>⟨_,Gp az aa af (.inr (.inl ⟨rfl,rfl⟩)) h.1,rfl⟩) fG⟩
  ·rename_i fG;have h:=xd h;exact⟨_,h.2,two _ (fun _ K' ρ I ac w aa af=>⟨_,Gp az aa af (.inr (.inr ⟨rfl,rfl⟩)) h.1,rfl⟩) fG⟩
  ·rename_i fG;have h':=xd h.2;exact⟨_,h'.2,two _ (fun _ K' ρ I ac w aa af=>⟨_,K7 az aa af h.1.1 h.1.2 (.inl ⟨rfl,rfl⟩) h'.1,rfl⟩) fG⟩
  ·rename_i fG;have h':=xd h.2;exact⟨_,h'.2,two _ (fun _ K' ρ I ac w aa af=>⟨_,K7 az aa af h.1.1 h.1.2 (.inr ⟨rfl,rfl⟩) h'.1,rfl⟩) fG⟩
  ·split at h
   ·rename_i aD
    have:=nW aD
    subst this
    have h':=xd h.2
    exact⟨_,h'.2,sh _ fun K' ρ I ac w aa af=>⟨_,K8 az aa af h.1.1 h.1.2.1 (by simp[IntKind.bits];have:=h.1.2.2;omega) (.inl ⟨rfl,rfl⟩) (fun _=>h'.1),rfl⟩⟩
   ·exact h.elim
  ·split at h
   ·rename_i aD
    have:=nW aD
    subst this
    exact⟨_,h.2,sh _ fun K' ρ I ac w aa af=>⟨_,K8 az aa af h.1.1 h.1.2.1 (by simp[IntKind.bits];have:=h.1.2.2;omega) (.inr ⟨rfl,rfl⟩) (fun e=>by cases e),rfl⟩⟩
   ·exact h.elim
  ·rename_i fG
   split at h
   ·rename_i aD
    have:=nW aD
    subst this
    refine⟨_,h.2,two _ (fun au K' ρ I ac w aa af=>⟨_,?_,rfl⟩) fG⟩
    have e:=RE h.1.1 h.1.2.1 h.1.2.2.1 h.1.2.2.2
    have hs:Op.intBits .or .i64 a b=pure (.int .i64 ((a.toNat ||| b.toNat:Nat):Int)):=by
     exact congrArg (fun z:Int=>(pure (Value.int .i64 z):Sem Value)) e
    simp only[execOp,az,aa,af,eqGuard,binOp,hs]
    simp[go_sem]
   ·exact h.elim
  ·rename_i fG;exact⟨_,h,two _ (fun _ K' ρ I ac w aa af=>⟨_,yY az aa af (.inl ⟨rfl,rfl⟩),rfl⟩) fG⟩
  ·rename_i fG;exact⟨_,h,two _ (fun _ K' ρ I ac w aa af=>⟨_,yY az aa af (.inr (.inl ⟨rfl,rfl⟩)),rfl⟩) fG⟩
  ·rename_i fG;exact⟨_,h,two _ (fun _ K' ρ I ac w aa af=>⟨_,yY az aa af (.inr (.inr (.inl ⟨rfl,rfl⟩))),rfl⟩) fG⟩
  ·rename_i fG;exact⟨_,h,two _ (fun _ K' ρ I ac w aa af=>⟨_,yY az aa af (.inr (.inr (.inr (.inl ⟨rfl,rfl⟩)))),rfl⟩) fG⟩
  ·rename_i fG;exact⟨_,h,two _ (fun _ K' ρ I ac w aa af=>⟨_,yY az aa af (.inr (.inr (.inr (.inr (.inl ⟨rfl,rfl⟩))))),rfl⟩) fG⟩
  ·rename_i fG;exact⟨_,h,two _ (fun _ K' ρ I ac w aa af=>⟨_,yY az aa af (.inr (.inr (.inr (.inr (.inr ⟨rfl,rfl⟩))))),rfl⟩) fG⟩
  ·exact h.elim
 ·rename_i s t hx aF
  have two: ∀(v:aO) (hv: ∀(K':aQ) (ρ:Nat→bq) (I:Nat→Prop) (ac:Act) (w:World),ac.eval x= .string ⟨s.toArray⟩→ac.eval y= .string ⟨t.toArray⟩→ ∃r,(execOp ac.eval o).run P w= .ok (.value r) w∧b8 ρ I w v r),bH P N ids o K B v bx:=fun v hv=>
   bH.two hx aF m1 m2 fun K' ρ I ac w hS aj ak=>hv K' ρ I ac w (hS.str aj) (hS.str ak)
  split at h
  ·exact⟨_,h.2,two _ fun K' ρ I ac w aa af=>⟨_,RD az aa af h.1,rfl⟩⟩
  ·exact⟨_,h,two _ fun K' ρ I ac w aa af=>⟨_,yZ az aa af (.inl ⟨rfl,rfl⟩),rfl⟩⟩
  ·exact⟨_,h,two _ fun K' ρ I ac w aa af=>⟨_,yZ az aa af (.inr (.inl ⟨rfl,rfl⟩)),rfl⟩⟩
  ·exact⟨_,h,two _ fun K' ρ I ac w aa af=>⟨_,yZ az aa af (.inr (.inr (.inl ⟨rfl,rfl⟩))),rfl⟩⟩
  ·exact⟨_,h,two _ fun K' ρ I ac w aa af=>⟨_,yZ az aa af (.inr (.inr (.inr (.inl ⟨rfl,rfl⟩)))),rfl⟩⟩
  ·exact⟨_,h,two _ fun K' ρ I ac w aa af=>⟨_,yZ az aa af (.inr (.inr (.inr (.inr (.inl ⟨rfl,rfl⟩))))),rfl⟩⟩
  ·exact⟨_,h,two _ fun K' ρ I ac w aa af=>⟨_,yZ az aa af (.inr (.inr (.inr (.inr (.inr ⟨rfl,rfl⟩))))),rfl⟩⟩
  ·exact h.elim
 ·rename_i c d hx aF
  obtain⟨e,hu⟩:=hp.resolve_right fun h=>(h c d).1 hx
  have q: ∀(p:Addr) (w:World),(Op.equalIn (9999+1) T (.pointer (some p)) (.pointer none)).run P w= .ok false w:=fun p w=>by
   unfold Op.equalIn
   simp[run_underlying hu]
  split at h
  ·refine⟨_,h,bH.two hx aF m1 m2 fun K' ρ I ac w hS aj ak=>⟨_,?_,rfl⟩⟩
   simp only[execOp,az,hS.ptr aj,hS.raw ak]
   simp[eqGuard,binOp,Op.equal,Op.maxDepth,q]
  ·refine⟨_,h,bH.two hx aF m1 m2 fun K' ρ I ac w hS aj ak=>⟨_,?_,rfl⟩⟩
   simp only[execOp,az,hS.ptr aj,hS.raw ak]
   simp[eqGuard,binOp,Op.equal,Op.maxDepth,q]
  ·exact h.elim
 ·rename_i hx aF
  obtain⟨e,hu⟩:=hp.resolve_right fun h=>(h 0 0).2 hx
  have q: ∀(w:World),(Op.equalIn (9999+1) T (.pointer none) (.pointer none)).run P w= .ok true w:=fun w=>by
   unfold Op.equalIn
   simp[run_underlying hu]
  split at h
  ·refine⟨_,h,bH.two hx aF m1 m2 fun K' ρ I ac w hS aj ak=>⟨_,?_,rfl⟩⟩
   simp only[execOp,az,hS.raw aj,hS.raw ak]
   simp[eqGuard,binOp,Op.equal,Op.maxDepth,q]
  ·refine⟨_,h,bH.two hx aF m1 m2 fun K' ρ I ac w hS aj ak=>⟨_,?_,rfl⟩⟩
   simp only[execOp,az,hS.raw aj,hS.raw ak]
   simp[eqGuard,binOp,Op.equal,Op.maxDepth,q]
  ·exact h.elim
 ·exact h.elim
theorem Lb {op:BinOp} {T gG:TypeId} {x y:Operand} (az:o.op= .binOp op T x y gG) (bh: ∀T,yP tt T=true→ ∃e i,P.underlying T=some (.pointer e)∧P.info? e=some i∧i.size≠0)
  (hp: ∃e,P.underlying T=some (.pointer e)) (h:C2 tt T op (aU K x) (aU K y) k): ∃v,k v bx∧bH P N ids o K B v bx:=by
 have m1:x∈o.op.operands:=by rw[az];exact yX.1
 have m2:y∈o.op.operands:=by rw[az];exact yX.2
 unfold C2 at h
 split at h
 ·rename_i p hx
  obtain⟨e,hu⟩:=hp
  have key: ∀(b:Bool) (r:Option Nat),(∀(ρ:Nat→bq) (I:Nat→Prop) (w:World) (v:Value),b8 ρ I w (aU K y) v→v= .pointer (nP r))→(b=true→p=r∧(r=none∨yP tt T=true))→(b=false→(p=none∧r≠none)∨(p≠none∧r=none))→(op= .eql→bH P N ids o K B (.c (.one (.d (.lit b)))) bx)∧(op= .neq→bH P N ids o K B (.c (.one (.d (.lit !b)))) bx):=by
   intro b r aF aa af
   have q: ∀(w:World),(Op.equalIn (9999+1) T (.pointer (nP p)) (.pointer (nP r))).run P w= .ok b w:=by
    intro w
    unfold Op.equalIn
    cases b with
    |true=>
     obtain⟨rfl,ay⟩:=aa rfl
     cases p with
     |none=>simp[run_underlying hu,nP]
     |some p=>
      rcases ay with ay |ay
      ·cases ay
      ·obtain⟨e',i,cz,er,eX⟩:=bh T ay
       rw[hu] at cz
       injection cz with cz
       injection cz with cz
       subst cz
       simp[run_underlying hu,nP,sizeOf,typeInfo,er,eX,sameAddr]
    |false=>
     rcases af rfl with⟨rfl,ay⟩ |⟨ay,rfl⟩
     ·cases r with
      |none=>exact absurd rfl ay
      |some r=>simp[run_underlying hu,nP]
     ·cases p with
      |none=>exact absurd rfl ay
      |some p=>simp[run_underlying hu,nP]
   refine⟨fun aj=>?_,fun aj=>?_⟩
   ·subst aj
    refine bH.val fun K' B' g1 g2 C ρ F a w aA hS=>⟨.bool b,?_,rfl⟩
    have aj:a.eval x= .pointer (nP p):=hS.ev ((g1 x m1).trans hx)
    have ak:a.eval y= .pointer (nP r):=aF _ _ _ _ (hS.ev (g1 y m2))
    simp only[execOp,az,aj,ak]
    simp[eqGuard,binOp,Op.equal,Op.maxDepth,q]
   ·subst aj
    refine bH.val fun K' B' g1 g2 C ρ F a w aA hS=>⟨.bool !b,?_,rfl⟩
    have aj:a.eval x= .pointer (nP p):=hS.ev ((g1 x m1).trans hx)
    have ak:a.eval y= .pointer (nP r):=aF _ _ _ _ (hS.ev (g1 y m2))
    simp only[execOp,az,aj,ak]
    simp[eqGuard,binOp,Op.equal,Op.maxDepth,q]
  have two: ∀(f:Bool→Prop),C1 tt T p (aU K y) f→ ∃b,f b∧(op= .eql→bH P N ids o K B (.c (.one (.d (.lit b)))) bx)∧(op= .neq→bH P N ids o K B (.c (.one (.d (.lit !b)))) bx):=by
   intro f h
   unfold C1 at h
   split at h
   ·rename_i aF
    have eP: ∀(ρ:Nat→bq) (I:Nat→Prop) (w:World) (v:Value),b8 ρ I w (aU K y) v→v= .pointer (nP none):=fun ρ I w v hv=>by rw[aF] at hv;exact hv
    cases hp:p with
    |some b=>exact⟨_,h.1 b hp,by
      have:=key false none eP (fun e=>by cases e) (fun _=>.inr ⟨by simp[hp],rfl⟩)
      exact this⟩
    |none=>exact⟨_,h.2 hp,key true none eP (fun _=>⟨hp,.inl rfl⟩) (fun e=>by cases e)⟩
   ·rename_i r aF
    have eP: ∀(ρ:Nat→bq) (I:Nat→Prop) (w:World) (v:Value),b8 ρ I w (aU K y) v→v= .pointer (nP r):=fun ρ I w v hv=>by rw[aF] at hv;exact hv
    split at h
    ·have bz:yP tt T=true:=by assumption
     obtain⟨rfl,h⟩:=h
     exact⟨_,h,key _ _ eP (fun _=>⟨rfl,.inr bz⟩) (fun e=>by cases e)⟩
    ·exact h.elim
   ·exact h.elim
  split at h
  ·obtain⟨b,aa,af,_⟩:=two _ h
   exact⟨_,aa,af rfl⟩
  ·obtain⟨b,aa,_,af⟩:=two _ h
   exact⟨_,aa,af rfl⟩
  ·exact h.elim
 ·exact La az (.inl hp) h
theorem Lc {op:BinOp} {T gG:TypeId} {x y:Operand} (az:o.op= .binOp op T x y gG) (hu:P.underlying T=some .bool) {a:Bool} (hx:aU K x= .c (.one (.d (.bool a)))∨aU K x= .c (.one (.d (.lit a))))
  (h:C3 op a (aU K y) k): ∃v,k v bx∧bH P N ids o K B v bx:=by
 have m1:x∈o.op.operands:=by rw[az];exact yX.1
 have m2:y∈o.op.operands:=by rw[az];exact yX.2
 have q: ∀(a b:Bool) (w:World),(Op.equalIn (9999+1) T (.bool a) (.bool b)).run P w= .ok (a == b) w:=fun a b w=>by
  unfold Op.equalIn
  simp[run_underlying hu]
 have key: ∀(b:Bool) (r:Bool),(aU K y= .c (.one (.d (.bool b)))∨aU K y= .c (.one (.d (.lit b))))→(op= .eql∧r=(a == b))∨(op= .neq∧r= !(a == b))→bH P N ids o K B (.c (.one (.d (.bool r)))) bx:=fun b r aF hr=>
  bH.val fun K' B' aa af C ρ F ac w aA hS=>by
   have ex:ac.eval x= .bool a:=by
    have:=hS.get x
    rw[aa x m1] at this
    rcases hx with hx |hx <;>(rw[hx] at this;exact this)
   have Gq:ac.eval y= .bool b:=by
    have:=hS.get y
    rw[aa y m2] at this
    rcases aF with aF |aF <;>(rw[aF] at this;exact this)
   refine⟨.bool r,?_,rfl⟩
   rcases hr with⟨rfl,rfl⟩ |⟨rfl,rfl⟩ <;>(simp only[execOp,az,ex,Gq];simp[eqGuard,binOp,Op.equal,Op.maxDepth,q])
 unfold C3 at h
 split at h
 ·exact⟨_,h,key _ _ (.inl ‹_›) (.inl ⟨rfl,rfl⟩)⟩
 ·exact⟨_,h,key _ _ (.inr ‹_›) (.inl ⟨rfl,rfl⟩)⟩
 ·exact⟨_,h,key _ _ (.inl ‹_›) (.inr ⟨rfl,rfl⟩)⟩
 ·exact⟨_,h,key _ _ (.inr ‹_›) (.inr ⟨rfl,rfl⟩)⟩
 ·exact h.elim
end
end Go.Proofs.YteoamepgonpdlaaGreat
namespace Go.Proofs.YteoamepgonpdlaaGreat
open Go.RowKit
section
variable {ρ:Nat→bq} {I:Nat→Prop} {w:World}
theorem bV.length: ∀(l:List bD) (vs:List Value),bV ρ I w l vs→vs.length=l.length
 | [],_,h=>by rw[show _=[] from h];rfl
 |s::l,_,⟨v,r,e,aa,af⟩=>by rw[e,List.length_cons,List.length_cons,bV.length l r af]
theorem bV.get: ∀(l:List bD) (vs:List Value),bV ρ I w l vs→ ∀(i:Nat) (s:bD),l[i]? =some s→ ∃v,vs[i]? =some v∧dN ρ I w s v
 | [],_,h,i,s,hs=>by simp at hs
 |t::l,_,⟨v,r,e,aa,af⟩,0,s,hs=>by
  simp only[List.getElem?_cons_zero,Option.some.injEq] at hs
  subst hs e
  exact⟨v,rfl,aa⟩
 |t::l,_,⟨v,r,e,aa,af⟩,i+1,s,hs=>by
  subst e
  simpa using bV.get l r af i s (by simpa using hs)
theorem bV.app: ∀(l m:List bD) (vs us:List Value),bV ρ I w l vs→bV ρ I w m us→bV ρ I w (l++m) (vs++us)
 | [],m,_,us,h,h'=>by rw[show _=[] from h];exact h'
 |s::l,m,_,us,⟨v,r,e,aa,af⟩,h'=>⟨v,r++us,by rw[e];rfl,aa,bV.app l m r us af h'⟩
theorem bV.y2: ∀(n:Nat) (l:List bD) (vs:List Value),bV ρ I w l vs→bV ρ I w (l.take n) (vs.take n)
 |0,_,_,_=>rfl
 |n+1,[],_,h=>by rw[show _=[] from h];rfl
 |n+1,s::l,_,⟨v,r,e,aa,af⟩=>⟨v,r.take n,by rw[e];rfl,aa,bV.y2 n l r af⟩
theorem bV.nr: ∀(n:Nat) (l:List bD) (vs:List Value),bV ρ I w l vs→bV ρ I w (l.drop n) (vs.drop n)
 |0,_,_,h=>h
 |n+1,[],_,h=>by rw[show _=[] from h];rfl
 |n+1,s::l,_,⟨v,r,e,aa,af⟩=>by rw[e];exact bV.nr n l r af
theorem bV.splice {l cs:List bD} {vs us:List Value} {o:Nat} (h:bV ρ I w l vs) (h':bV ρ I w cs us):bV ρ I w (AJ l o cs) (vs.take o++us++vs.drop (o+us.length)):=by
 unfold AJ
 rw[bV.length cs us h']
 exact bV.app _ _ _ _ (bV.app _ _ _ _ (bV.y2 _ _ _ h) h') (bV.nr _ _ _ h)
theorem ok_one {s:bD} {v:Value} (h:s.ok=true) (hv:dN ρ I w s v):v.oneCell'=true:=by
 cases s with
 |d x=>
  cases x with
  |cT u xs=>obtain⟨A,cap,e,_⟩:=hv;injection e with e;rw[e];rfl
  |c9 y=>rw[show v=qW y from hv];rcases y with _ |⟨b,n,c⟩ <;>rfl
  |fn y=>rw[show v=mJ y from hv];rfl
  |_=>rw[show v=_ from hv];rfl
 |ptr c o=>rw[show v=_ from hv];rfl
 |own c=>rw[show v=_ from hv];rfl
 |el u x o=>obtain⟨b,p,e,_⟩:=hv;rw[e];rfl
 |fk c s i o=>rw[show v=_ from hv];rfl
 |os c s o n=>rw[show v=_ from hv];rfl
 |mp c=>rw[show v=_ from hv];rfl
 |eM f l=>obtain⟨vs,e,_⟩:=hv;rw[e];rfl
 |ec=>rw[show v=_ from hv];rfl
 |raw u=>
  rw[show v=u from hv]
  cases u <;>first |rfl |(simp[bD.ok] at h)
 |any=>simp[bD.ok] at h
theorem Ld: ∀{l:List bD} {vs:List Value},CV l=true→bV ρ I w l vs→ ∀u∈vs,u.oneCell'=true
 | [],_,_,hv,u,hu=>by rw[show _=[] from hv] at hu;cases hu
 |s::l,_,h,⟨v,r,e,aa,af⟩,u,hu=>by
  simp only[CV,Bool.and_eq_true] at h
  subst e
  rcases List.mem_cons.1 hu with rfl |hu
  ·exact ok_one h.1 aa
  ·exact Ld h.2 af u hu
theorem Gr {vO:aO} {l:List bD} {v:Value} (h:vL vO=some l) (hv:b8 ρ I w vO v): ∃vs,v.cells=List.toArray vs∧bV ρ I w l vs∧ ∀u∈vs,u.oneCell'=true:=by
 unfold vL at h
 split at h
 ·split at h
  ·rename_i s hs
   injection h with h
   subst h
   have aa:=ok_one hs hv
   refine⟨[v],?_,⟨v,[],rfl,hv,rfl⟩,fun u hu=>by simp at hu;rw[hu];exact aa⟩
   cases v <;>first |rfl |(simp[Value.oneCell'] at aa)
  ·cases h
 ·split at h
  ·rename_i l' aB
   injection h with h
   subst h
   obtain⟨vs,e,af⟩:=hv
   exact⟨vs,by rw[e];rfl,af,Ld aB af⟩
  ·cases h
 ·cases h
end
def dA {α:Type} (f:Nat→α) (c:Nat) (x:α):Nat→α:=fun d=>if d=c then x else f d
theorem dR {α:Type} (f:Nat→α) (c:Nat) (x:α):dA f c x c=x:=if_pos rfl
theorem dP {α:Type} (f:Nat→α) {c d:Nat} (x:α) (h:d≠c):dA f c x d=f d:=if_neg h
theorem Le {c:Nat}: ∀{K:aQ},uv c K=true→ ∀s,(look K s).has c=false
 | [],_,s=>rfl
 |(t,v)::K,h,s=>by
  simp only[uv,Bool.and_eq_true,Bool.not_eq_true'] at h
  rw[kJ]
  split
  ·exact h.1
  ·exact Le h.2 s
theorem Db {c:Nat}: ∀{B:aG},nk c B=true→ax B c=none∧ ∀d ch,ax B d=some ch→ch.has c=false
 | [],_=>⟨rfl,fun d ch h=>by cases h⟩
 |(t,v)::B,h=>by
  simp only[nk,Bool.and_eq_true,Bool.not_eq_true'] at h
  obtain⟨aa,af⟩:=Db h.2
  have bg:t≠c:=fun e=>by subst e;simp at h
  refine⟨by rw[cD,if_neg bg];exact aa,fun d ch hd=>?_⟩
  rw[cD] at hd
  split at hd
  ·injection hd with hd;subst hd;exact h.1.2
  ·exact af d ch hd
theorem lG {ids:List Nat} {K:aQ} {B:aG} {c:Nat} (h:gz ids K B c=true):(∀s,(look K s).has c=false)∧ax B c=none∧(∀d ch,ax B d=some ch→ch.has c=false)∧c∉ids:=by
 simp only[gz,Bool.and_eq_true,Bool.not_eq_true'] at h
 obtain⟨af,ay⟩:=Db h.1.2
 exact⟨Le h.1.1,af,ay,by simpa using h.2⟩
section
variable {P:Program} {tt:cY} {N:Nat} {ids:List Nat} {o:Oper} {K:aQ} {B:aG} {C:Ctx} {ρ:Nat→bq} {F:Nat→Nat→Prop} {w w':World}
theorem Mem.make (h:Mem ids C B ρ F w) {c:Nat} {ch:bw} (hf:gz ids K B c=true) (ag:Below w.heap.size w w') (pl:bq) (G:Nat→Prop) (oR: ∀b,G b→w.heap.size≤b∧b < w'.heap.size)
  (dW: ∀I,Ext (bO C B F w) w I w'→(∀b,I b→b < w'.heap.size∧ ¬G b)→Holds (dA ρ c pl) I G w' pl ch):
  Mem ids C ((c,ch)::B) (dA ρ c pl) (dA F c G) w'∧Ext (bO C B F w) w (bO C ((c,ch)::B) (dA F c G) w') w':=by
 obtain⟨f1,f2,f3,f4⟩:=lG hf
 refine h.step (fun d=>d=c) (fun d=>d=c) (Fr.qU ag) ?_ (fun d hd=>dP _ _ hd) (fun d hd=>dP _ _ hd) (fun d hd e=>f4 (e▸hd)) (fun _ h=>h) ?_ ?_ ?_ ?_
 ·intro d ch' hd bg
  rw[cD,if_neg (fun e=>bg e.symm)] at hd
  exact hd
 ·rintro d ch' hd _ e he rfl
  rw[f3 d ch' hd] at he
  cases he
 ·rintro d ch' hd rfl he
  rw[cD,if_pos rfl] at hd
  injection hd with hd
  subst hd
  rw[dR,dR]
  exact dW _ he fun b dw=>⟨dw.1,fun bk=>dw.2.2 d ch (by rw[cD,if_pos rfl]) (by rw[dR];exact bk)⟩
 ·rintro d ch' hd rfl b bk
  rw[dR] at bk
  exact⟨(oR b bk).2,.inr (oR b bk).1⟩
 ·rintro d d' kM qo b _ _ rfl rfl bg
  exact absurd rfl bg
theorem Mem.jP (h:Mem ids C B ρ F w) {c:Nat} {cm ch:bw} (hc:ax B c=some cm) (cr:Fr (F c) w w')
  (dW: ∀I,Ext (bO C B F w) w I w'→Holds ρ I (F c) w' (ρ c) ch):
  Mem ids C ((c,ch)::B) ρ F w'∧Ext (bO C B F w) w (bO C ((c,ch)::B) F w') w':=by
 refine h.step (fun d=>d=c) (fun _=>False) (cr.mono fun b _ ag=>⟨c,cm,hc,rfl,ag⟩) ?_ (fun _ _=>rfl) (fun _ _=>rfl) (fun _ _ h=>h) (fun _ h=>h.elim) (fun _ _ _ _ _ _ h=>h) ?_ ?_ ?_
 ·intro d ch' hd bg
  rw[cD,if_neg (fun e=>bg e.symm)] at hd
  exact hd
 ·rintro d ch' hd rfl he
  rw[cD,if_pos rfl] at hd
  injection hd with hd
  subst hd
  exact dW _ he
 ·rintro d ch' hd rfl b ag
  exact⟨Nat.lt_of_lt_of_le (h.own d cm hc b ag).1 cr.size,.inl ⟨d,cm,hc,rfl,ag⟩⟩
 ·rintro d d' kM qo b _ _ rfl rfl bg
  exact absurd rfl bg
theorem bH.make {c:Nat} {ch:bw} {v:aO} {rc:List Nat} (hv: ∀d,v.has d=true→d=c)
  (h: ∀(K':aQ) (B':aG),(∀x,x∈o.op.operands→aU K' x=aU K x)→(∀c,c∈rc→ax B' c=ax B c)→ ∀(C:Ctx) (ρ:Nat→bq) (F:Nat→Nat→Prop) (a:Act) (w:World),Mem ids C B' ρ F w→ek K' ρ (bO C B' F w) a w→
   (∀s,(look K' s).has c=false)→ ∃x w' pl G,(execOp a.eval o).run P w= .ok (.value x) w'∧Below w.heap.size w w'∧(∀b,G b→w.heap.size≤b∧b < w'.heap.size)∧
    (∀I,Ext (bO C B' F w) w I w'→(∀b,I b→b < w'.heap.size∧ ¬G b)→Holds (dA ρ c pl) I G w' pl ch∧b8 (dA ρ c pl) I w' v x)):
  bH P N ids o K B v ⟨rc,[c],[(c,some ch)]⟩:=by
 rintro K' B' aa af ay C a w ⟨hn,hd,ρ,F,aA,hS⟩ bF fl Q hK
 have hf:=ay c (by simp)
 have cr:=lG hf
 obtain⟨x,w',pl,G,hx,ag,oR,dW⟩:=h K' B' aa af C ρ F a w aA hS cr.1
 obtain⟨bR,he⟩:=aA.make hf ag pl G oR fun I aj ak=>(dW I aj ak).1
 unfold Oper.wp
 rw[hx,Oper.upon_value]
 refine hK _ _ ⟨lC.trans hn,put_defers.trans hd,dA ρ c pl,dA F c G,bR,(hS.mono he fun s d hd=>dP _ _ (fun e=>by subst e;rw[cr.1 s] at hd;cases hd)).lD (fun e he=>by rw[hn];exact bF e he) ?_⟩
 exact(dW _ he fun b dw=>⟨dw.1,fun bk=>dw.2.2 c ch (by rw[cD,if_pos rfl]) (by rw[dR];exact bk)⟩).2
theorem bH.jP {c:Nat} {cm ch:bw} (hc:ax B c=some cm)
  (h: ∀(K':aQ) (B':aG),(∀x,x∈o.op.operands→aU K' x=aU K x)→ ∀(C:Ctx) (ρ:Nat→bq) (F:Nat→Nat→Prop) (a:Act) (w:World),Mem ids C B' ρ F w→ek K' ρ (bO C B' F w) a w→ax B' c=some cm→ ∃w',(execOp a.eval o).run P w= .ok .skip w'∧Fr (F c) w w'∧
   (∀I,Ext (bO C B' F w) w I w'→Holds ρ I (F c) w' (ρ c) ch)):
  bH P N ids o K B .undef ⟨[c],[],[(c,some ch)]⟩:=by
 rintro K' B' aa af - C a w ⟨hn,hd,ρ,F,aA,hS⟩ bF fl Q hK
 have dm:ax B' c=some cm:=(af c (by simp)).trans hc
 obtain⟨w',hx,cr,dW⟩:=h K' B' aa C ρ F a w aA hS dm
 obtain⟨bR,he⟩:=aA.jP dm cr dW
 unfold Oper.wp
 rw[hx,Oper.upon_skip]
 exact hK _ _ ⟨lC.trans hn,put_defers.trans hd,ρ,F,bR,(hS.mono he fun _ _ _=>rfl).lD (fun e he=>by rw[hn];exact bF e he) rfl⟩
theorem Lf {T:TypeId} {p:Addr} {v:Value} {d:TypeDesc} (hu:P.underlying T=some d) (hd:d.isRow=false) (hc:w.cell? p=some v):(loadVar T p).run P w= .ok v w:=by
 cases d <;>first |(simp[TypeDesc.isRow] at hd;done) |simp[loadVar,isAgg,run_underlying hu,go_sem,hc]
theorem Gs {ev:Operand→Value} {T:TypeId} {x:Operand} {p:Addr} {v:Value} {d:TypeDesc} (az:o.op= .load T x) (aa:ev x= .pointer (some p)) (hu:P.underlying T=some d) (hd:d.isRow=false) (hc:w.cell? p=some v):(execOp ev o).run P w= .ok (.value v) w:=by
 unfold execOp
 simp only[az,aa,Instr.loadAt,Instr.sureAddr,Sem.run_bind,Sem.run_pure,Result.andThen_ok,Lf hu hd hc]
theorem Gt {ev:Operand→Value} {T:TypeId} {x:Operand} {b p:Nat} {cs:List Value} {d:TypeDesc} {i:TypeInfo} (az:o.op= .load T x) (aa:ev x= .pointer (some ⟨b,p,none⟩)) (hu:P.underlying T=some d) (hd:d.isRow=true) (aD:P.info? T=some i) (aB:i.size=cs.length)
  (hc: ∀(j:Nat) (u:Value),cs[j]? =some u→w.cell? ⟨b,p+j,none⟩=some u):(execOp ev o).run P w= .ok (.value (.agg cs.toArray)) w:=by
 unfold execOp
 simp only[az,aa,Instr.loadAt,Instr.sureAddr,Sem.run_bind,Sem.run_pure,Result.andThen_ok,run_loadVar_mid w b p T cs d hc hu hd (by rw[aD,Option.map_some,aB])]
theorem cell_of {b:Nat} {vs:List Value} {T:Nat} (h:w.heap[b]? =some (.cells (List.toArray vs) T (0,0))) {j:Nat} {v:Value} (au:vs[j]? =some v):w.cell? ⟨b,j,none⟩=some v:=by
 simp[World.cell?,h,au]
theorem y3 {ev:Operand→Value} {T:TypeId} {x y:Operand} {b p:Nat} {vs us:List Value} {U:Nat} {i:TypeInfo} (az:o.op= .store T x y) (aa:ev x= .pointer (some ⟨b,p,none⟩)) (aF:(ev y).cells=List.toArray us) (aD:P.info? T=some i) (aB:i.size=us.length)
  (ag:w.heap[b]? =some (.cells (List.toArray vs) U (0,0))) (nX:p+us.length≤vs.length) (rY: ∀u∈us,u.oneCell'=true):
  (execOp ev o).run P w= .ok .skip (w.setRow b (vs.take p++us++vs.drop (p+us.length)).toArray):=by
 have hs:=run_storeCells_at (P:=P) b p U us 0 (List.toArray vs) w ag (by simpa using nX) rY
 simp only[Nat.add_zero,List.toList_toArray] at hs
 have aS:(ev y).cells.size=i.size:=by rw[aF,aB];simp
 unfold execOp
 simp[az,aa,Instr.storeAt,Instr.sureAddr,storeVar,sizeOf,typeInfo,aD,aF,aB,hs]
end
end Go.Proofs.YteoamepgonpdlaaGreat
namespace Go.Proofs.YteoamepgonpdlaaGreat
open Go.RowKit
section
variable {P:Program} {tt:cY} {N:Nat} {ids:List Nat} {o:Oper} {K:aQ} {B:aG} {k:aO→fA→Prop}
def cv (P:Program) (N:Nat) (ids:List Nat) (o:Oper) (K:aQ) (B:aG) (k:aO→fA→Prop):Prop:= ∃v e,k v e∧bH P N ids o K B v e∧ ∀c,c∈e.bA→gz ids K B c=true
theorem cv.of {v:aO} {rc:List Nat} {wc:List (Nat×Option bw)} (h:k v ⟨rc,[],wc⟩) (aV:bH P N ids o K B v ⟨rc,[],wc⟩):cv P N ids o K B k:=⟨_,_,h,aV,fun c hc=>by cases hc⟩
theorem cv.bA {v:aO} {rc:List Nat} {d:Nat} {wc:List (Nat×Option bw)} (h:k v ⟨rc,[d],wc⟩) (hf:gz ids K B d=true) (aV:bH P N ids o K B v ⟨rc,[d],wc⟩):cv P N ids o K B k:=⟨_,_,h,aV,fun c hc=>by simp at hc;rw[hc];exact hf⟩
theorem Lg {x:Operand} (az:o.op= .move x∨o.op= .assign x) (h:oO (aU K x) fun v=>k v bx):cv P N ids o K B k:=by
 rw[uu] at h
 refine cv.of h <| bH.one rfl (by rcases az with az |az <;>rw[az] <;>simp[Op.operands]) fun K' ρ I a w hS e=>⟨_,?_,hS.ev e⟩
 rcases az with az |az <;>simp[execOp,az]
theorem RF {c x y:Operand} (az:o.op= .pick c x y) (h:match aU K c with
  | .c (.one (.d (.lit true)))=>oO (aU K x) fun v=>k v bx
  | .c (.one (.d (.lit false)))=>oO (aU K y) fun v=>k v bx
  |_=>False):cv P N ids o K B k:=by
 have m1:c∈o.op.operands:=by rw[az];simp[Op.operands]
 have m2:x∈o.op.operands:=by rw[az];simp[Op.operands]
 have m3:y∈o.op.operands:=by rw[az];simp[Op.operands]
 split at h
 ·rename_i hc
  rw[uu] at h
  exact cv.of h <| bH.two hc rfl m1 m2 fun K' ρ I a w hS aj ak=>⟨_,by simp[execOp,az,hS.lit aj,asBool],hS.ev ak⟩
 ·rename_i hc
  rw[uu] at h
  exact cv.of h <| bH.two hc rfl m1 m3 fun K' ρ I a w hS aj ak=>⟨_,by simp[execOp,az,hS.lit aj,asBool],hS.ev ak⟩
 ·exact h.elim
theorem RG {T:TypeId} {x:Operand} (az:o.op= .unOp .not T x) (h:match aU K x with
  | .c (.one (.d (.lit true)))=>k (.c (.one (.d (.lit false)))) bx
  | .c (.one (.d (.lit false)))=>k (.c (.one (.d (.lit true)))) bx
  | .c (.one (.d (.bool b)))=>k (.c (.one (.d (.bool (!b))))) bx
  |_=>False):cv P N ids o K B k:=by
 have m1:x∈o.op.operands:=by rw[az];simp[Op.operands]
 split at h
 ·rename_i hc;exact cv.of h <| bH.one hc m1 fun K' ρ I a w hS aj=>⟨_,by simp[execOp,az,hS.lit aj,Op.unary],rfl⟩
 ·rename_i hc;exact cv.of h <| bH.one hc m1 fun K' ρ I a w hS aj=>⟨_,by simp[execOp,az,hS.lit aj,Op.unary],rfl⟩
 ·rename_i b hc;exact cv.of h <| bH.one hc m1 fun K' ρ I a w hS aj=>⟨_,by simp[execOp,az,hS.bool aj,Op.unary],rfl⟩
 ·exact h.elim
theorem iN.get {ρ:Nat→bq} {I:Nat→Prop} {w:World}: ∀(l:List dL) (vs:List Value),iN ρ I w l vs→ ∀(i:Nat) (s:dL),l[i]? =some s→ ∃v,vs[i]? =some v∧fZ ρ I w s v
 | [],_,h,i,s,hs=>by simp at hs
 |t::l,_,⟨v,r,e,aa,af⟩,0,s,hs=>by
  simp only[List.getElem?_cons_zero,Option.some.injEq] at hs
  subst hs e
  exact⟨v,rfl,aa⟩
 |t::l,_,⟨v,r,e,aa,af⟩,i+1,s,hs=>by
  subst e
  simpa using iN.get l r af i s (by simpa using hs)
theorem RH {x:Operand} {i:Nat} (az:o.op= .extract x i) (h:match aU K x with
  | .c6 l=>match l[i]? with
   |some v=>k (.c v) bx
   |none=>False
  |_=>False):cv P N ids o K B k:=by
 have m1:x∈o.op.operands:=by rw[az];simp[Op.operands]
 split at h
 ·rename_i l aB
  split at h
  ·rename_i v hv
   refine cv.of h <| bH.one aB m1 fun K' ρ I a w hS aj=>?_
   obtain⟨vs,e,af⟩:=hS.ev aj
   obtain⟨u,hu,ay⟩:=iN.get l vs af i v hv
   exact⟨u,by simp[execOp,az,e,Instr.extract,hu],ay⟩
  ·exact h.elim
 ·exact h.elim
theorem RI {x:Operand} (az:o.op= .nilCheck x) (h:match aU K x with
  | .c (.one (.ptr c o))=>k (.c (.one (.ptr c o))) bx
  | .c (.one (.el u y o))=>k (.c (.one (.el u y o))) bx
  | .c (.one (.fk c s i o))=>k (.c (.one (.fk c s i o))) bx
  |_=>False):cv P N ids o K B k:=by
 have m1:x∈o.op.operands:=by rw[az];simp[Op.operands]
 split at h
 ·rename_i c p hc;exact cv.of h <| bH.one hc m1 fun K' ρ I a w hS aj=>⟨_,by simp[execOp,az,hS.ptr aj],rfl⟩
 ·rename_i u y p hc
  refine cv.of h <| bH.one hc m1 fun K' ρ I a w hS aj=>⟨a.eval x,?_,hS.ev aj⟩
  obtain⟨b,q,e,_⟩:=hS.ev aj
  simp[execOp,az,e]
 ·rename_i c s i p hc;exact cv.of h <| bH.one hc m1 fun K' ρ I a w hS aj=>⟨_,by simp[execOp,az,hS.fk aj],rfl⟩
 ·exact h.elim
theorem Dc {ev:Operand→Value} {T:TypeId} {x:Operand} {f g off d:Nat} {w:World} {fs:Array Field} {fd:Field} {i:TypeInfo} (aa:ev x= .pointer (some ⟨g,off,none⟩)) (az:o.op= .fieldAddr T x f)
  (cn:P.underlying T=some (.struct fs)) (pI:fs[f]? =some fd) (hd:fd.offset=d) (aD:P.info? fd.type=some i) (dH:i.size≠0):(execOp ev o).run P w= .ok (.value (.pointer (some ⟨g,off+d,none⟩))) w:=by
 subst hd
 simp[execOp,az,aa,Instr.fieldAt,run_underlying cn,pI,Instr.sureAddr,fieldPlace,sizeOf,typeInfo,aD,dH,qV]
theorem RJ (bh:dQ P tt) {T:TypeId} {x:Operand} {f:Nat} (az:o.op= .fieldAddr T x f) (h:match F3 tt T f with
  |some (d,_)=>match aU K x with
   | .c (.one (.ptr c o))=>k (.c (.one (.ptr c (o+d)))) bx
   | .c (.one (.el u y o))=>k (.c (.one (.el u y (o+d)))) bx
   | .c (.one (.fk c s i o))=>k (.c (.one (.fk c s i (o+d)))) bx
   |_=>False
  |none=>False):cv P N ids o K B k:=by
 have m1:x∈o.op.operands:=by rw[az];simp[Op.operands]
 split at h
 ·rename_i d n hd
  have⟨fs,fd,i,cn,pI,Gu,aD,aS⟩: ∃fs fd i,P.underlying T=some (.struct fs)∧fs[f]? =some fd∧fd.offset=d∧P.info? fd.type=some i∧i.size≠0:=by
   unfold F3 at hd
   split at hd
   ·rename_i ti gA
    split at hd
    ·rename_i aq
     obtain⟨i,dd,bB⟩:=bh.at_ gA
     obtain⟨fs,hu,rfl⟩:=bB.st aq
     obtain⟨fd,Lh,aa,af,ay,bu,dI⟩:=K6 _ _ (bB.mM fs rfl) f d n hd
     exact⟨fs,fd,Lh,hu,by simpa using aa,af,ay,by rw[bu];exact dI⟩
    ·cases hd
   ·cases hd
  split at h
  ·rename_i c p hc
   exact cv.of h <| bH.one hc m1 fun K' ρ I a w hS aj=>⟨_,Dc (hS.ptr aj) az cn pI Gu aD aS,rfl⟩
  ·rename_i u y p hc
   refine cv.of h <| bH.one hc m1 fun K' ρ I a w hS aj=>?_
   obtain⟨b,q,e,af⟩:=hS.ev aj
   exact⟨_,Dc e az cn pI Gu aD aS,b,q,by rw[Nat.add_assoc],af⟩
  ·rename_i c s j p hc
   exact cv.of h <| bH.one hc m1 fun K' ρ I a w hS aj=>⟨_,Dc (hS.fk aj) az cn pI Gu aD aS,by simp only[b8,fZ,dN];rw[Nat.add_assoc]⟩
  ·exact h.elim
 ·exact h.elim
theorem Dd {ρ:Nat→bq} {I:Nat→Prop} {w:World} {u:U} {y:aI u} {c:Nat→Option Value} (aF:b7 I w u y c): ∀(n p:Nat),p+n≤aM u→ ∃vs,bV ρ I w (fH u y p n) vs∧ ∀(j:Nat) (v:Value),vs[j]? =some v→c (p+j)=some v
 |0,p,_=>⟨[],rfl,fun j v h=>by simp at h⟩
 |n+1,p,h=>by
  obtain⟨v,aa,af⟩:=b7.cell u y c p aF (by omega)
  obtain⟨vs,ay,bu⟩:=Dd aF n (p+1) (by omega)
  refine⟨v::vs,⟨v,vs,rfl,af,ay⟩,fun j v' au=>?_⟩
  match j with
  |0=>simp only[List.getElem?_cons_zero,Option.some.injEq] at au;subst au;exact aa
  |j+1=>rw[show p+(j+1)=p+1+j by omega];exact bu j v' (by simpa using au)
theorem rZ (u:U) (y:aI u): ∀(n p:Nat),(fH u y p n).length=n
 |0,_=>rfl
 |n+1,p=>by simp[fH,rZ u y n]
theorem y4 (u:U) (y:aI u): ∀(n p i:Nat),i < n→(fH u y p n)[i]? =some (.d (e4 u y (p+i)))
 |0,p,i,h=>by omega
 |n+1,p,0,h=>rfl
 |n+1,p,i+1,h=>by
  have:=y4 u y n (p+1) i (by omega)
  rw[show p+1+i=p+(i+1) by omega] at this
  simpa[fH] using this
theorem y5 {ρ:Nat→bq} {I:Nat→Prop} {w:World} {u:U} {y:aI u} (hw:nO u y) {vs:List Value} (h:bV ρ I w (fH u y 0 (aM u)) vs):b7 I w u y (fun j=>vs[j]?):=
 b7.mk u y _ hw fun j au=>by
  have bk:=y4 u y (aM u) 0 j au
  rw[Nat.zero_add] at bk
  obtain⟨v,aj,ak⟩:=bV.get _ _ h j _ bk
  exact⟨v,aj,ak⟩
theorem De {T:TypeId} {x:Operand} (az:o.op= .load T x) {ti:cB} {i:TypeInfo} {d:TypeDesc} (bB:mg P T ti i d) {u:U} {y:aI u} {p:Nat} {a:Act} {w:World} {I:Nat→Prop} {ρ:Nat→bq} {b q:Nat}
  (he:a.eval x= .pointer (some ⟨b,q+p,none⟩)) (aF:b7 I w u y (fun j=>w.cell? ⟨b,q+j,none⟩)):
  (ti.row=true→p+ti.size≤aM u→ ∃r,(execOp a.eval o).run P w= .ok (.value r) w∧b8 ρ I w (.c (.agg (fH u y p ti.size))) r)∧
  (ti.row=false→p < aM u→ ∃r,(execOp a.eval o).run P w= .ok (.value r) w∧b8 ρ I w (.c (.one (.d (e4 u y p)))) r):=by
 constructor
 ·intro hr hle
  obtain⟨vs,aa,af⟩:=Dd (ρ:=ρ) aF ti.size p hle
  refine⟨_,Gt (cs:=vs) az he bB.und (bB.row.trans hr) bB.info (by rw[bV.length _ _ aa,rZ];exact bB.size) (fun j v au=>?_),vs,rfl,aa⟩
  rw[Nat.add_assoc]
  exact af j v au
 ·intro hr bF
  obtain⟨v,aa,af⟩:=b7.cell u y _ p aF bF
  exact⟨v,Gs az he bB.und (bB.row.trans hr) aa,af⟩
theorem RK {ρ:Nat→bq} {I F:Nat→Prop} {w:World} {p:bq} {e:TypeId} {u:U} {xs:List (aI u)} (h:Holds ρ I F w p (.row e u xs)) {i:Nat} {y:aI u} (aF:eT xs i=some y):
  b7 I w u y (fun j=>w.cell? ⟨p.bI,i*aM u+j,none⟩):=by
 obtain⟨aa,af,cs,ay,bu⟩:=h
 refine b7.mono (Ext.refl _ _) u y _ _ (fun j v au=>?_) (bu i y aF)
 have au:cs[i*aM u+j]? =some v:=au
 have hx:=AH aF
 have AS:=ay
 obtain⟨aB,ay⟩:=ay
 rcases ay with⟨_,aE⟩ |⟨g,cap,cur,hv,_,bk,_,_,_,cc⟩
 ·omega
 ·have ag:p.hdr.ownBlock=some g:=by rw[hv];rfl
  rw[←af g ag]
  have:=AS.cells ag (i*aM u+j) v au
  rwa[qV,Nat.zero_add] at this
theorem RL (bh:dQ P tt) {T:TypeId} {x:Operand} (az:o.op= .load T x) (h:match tt.find T with
  |some ti=>match aU K x with
   | .c (.one (.ptr c o))=>match ax B c with
    |some (.cells l)=>match ti.row with
     |true=>match Nat.ble (o+ti.size) l.length with
      |true=>pG ((l.drop o).take ti.size) fun l=>k (.c (.agg l)) ⟨[c],[],[]⟩
      |false=>False
     |false=>match l[o]? with
      |some s=>yN s fun s=>k (.c (.one s)) ⟨[c],[],[]⟩
      |none=>False
    |_=>False
   | .c (.one (.el u y o))=>match ti.row with
    |true=>match Nat.ble (o+ti.size) (aM u) with
     |true=>pG (fH u y o ti.size) fun l=>k (.c (.agg l)) bx
     |false=>False
    |false=>match Nat.blt o (aM u) with
     |true=>yM (e4 u y o) fun x=>k (.c (.one (.d x))) bx
     |false=>False
   | .c (.one (.fk c s i o))=>match ax B c with
    |some (.row _ u xs)=>match Nat.beq s (aM u) with
     |true=> ∃y,eT xs i=some y∧match ti.row with
      |true=>match Nat.ble (o+ti.size) (aM u) with
       |true=>pG (fH u y o ti.size) fun l=>k (.c (.agg l)) ⟨[c],[],[]⟩
       |false=>False
      |false=>match Nat.blt o (aM u) with
       |true=>yM (e4 u y o) fun x=>k (.c (.one (.d x))) ⟨[c],[],[]⟩
       |false=>False
     |false=>False
    |_=>False
   |_=>False
  |none=>False):cv P N ids o K B k:=by
 have m1:x∈o.op.operands:=by rw[az];simp[Op.operands]
 split at h
 ·rename_i ti gA
  obtain⟨i,d,bB⟩:=bh.at_ gA
  split at h
  ·rename_i c p hc
   split at h
   ·rename_i l aB
    have key: ∀(K':aQ) (B':aG),(∀x,x∈o.op.operands→aU K' x=aU K x)→(∀d,d∈ [c]→ax B' d=ax B d)→ ∀(C:Ctx) (ρ:Nat→bq) (F:Nat→Nat→Prop) (a:Act) (w:World),Mem ids C B' ρ F w→ek K' ρ (bO C B' F w) a w→
      a.eval x= .pointer (some ⟨(ρ c).bI,p,none⟩)∧ ∃vs T,w.heap[(ρ c).bI]? =some (.cells (List.toArray vs) T (0,0))∧bV ρ (bO C B' F w) w l vs:=fun K' B' aa af C ρ F a w aA hS=>by
     have bZ:=aA.holds c _ ((af c (by simp)).trans aB)
     exact⟨hS.ptr ((aa x m1).trans hc),bZ.2⟩
    split at h
    ·rename_i hr
     split at h
     ·rename_i hle
      have hle:=Nat.le_of_ble_eq_true hle
      rw[yO] at h
      refine cv.of h <| bH.val fun K' B' aa af C ρ F a w aA hS=>?_
      obtain⟨aj,vs,eN,ag,hd⟩:=key K' B' aa af C ρ F a w aA hS
      have ku:=bV.y2 ti.size _ _ (bV.nr p _ _ hd)
      refine⟨_,Gt (cs:=(vs.drop p).take ti.size) az aj bB.und (bB.row.trans hr) bB.info ?_ (fun j u au=>?_),_,rfl,ku⟩
      ·rw[bV.length _ _ ku,List.length_take,List.length_drop,bB.size]
       omega
      ·rw[List.getElem?_take] at au
       split at au
       ·rw[List.getElem?_drop] at au
        exact cell_of ag au
       ·cases au
     ·exact h.elim
    ·rename_i hr
     split at h
     ·rename_i s hs
      rw[FM] at h
      refine cv.of h <| bH.val fun K' B' aa af C ρ F a w aA hS=>?_
      obtain⟨aj,vs,eN,ag,hd⟩:=key K' B' aa af C ρ F a w aA hS
      obtain⟨v,hv,ku⟩:=bV.get _ _ hd p s hs
      exact⟨v,Gs az aj bB.und (bB.row.trans hr) (cell_of ag hv),ku⟩
     ·exact h.elim
   ·exact h.elim
  ·rename_i u y p hc
   split at h
   ·rename_i hr
    split at h
    ·rename_i hle
     rw[yO] at h
     refine cv.of h <| bH.one hc m1 fun K' ρ I a w hS aj=>?_
     obtain⟨b,q,e,_,aF⟩:=hS.ev aj
     exact(De az bB e aF).1 hr (Nat.le_of_ble_eq_true hle)
    ·exact h.elim
   ·rename_i hr
    split at h
    ·rename_i bF
     rw[FL] at h
     refine cv.of h <| bH.one hc m1 fun K' ρ I a w hS aj=>?_
     obtain⟨b,q,e,_,aF⟩:=hS.ev aj
     exact(De az bB e aF).2 hr (by simpa[Nat.blt_eq] using bF)
    ·exact h.elim
  ·rename_i c s j p hc
   split at h
   ·rename_i e u xs aB
    split at h
    ·rename_i hs
     have hs:=Nat.eq_of_beq_eq_true hs
     subst hs
     obtain⟨y,aF,h⟩:=h
     have key: ∀(K':aQ) (B':aG),(∀x,x∈o.op.operands→aU K' x=aU K x)→(∀d,d∈ [c]→ax B' d=ax B d)→ ∀(C:Ctx) (ρ:Nat→bq) (F:Nat→Nat→Prop) (a:Act) (w:World),Mem ids C B' ρ F w→ek K' ρ (bO C B' F w) a w→
       a.eval x= .pointer (some ⟨(ρ c).bI,j*aM u+p,none⟩)∧b7 (bO C B' F w) w u y (fun i=>w.cell? ⟨(ρ c).bI,j*aM u+i,none⟩):=fun K' B' aa af C ρ F a w aA hS=>
      ⟨hS.fk ((aa x m1).trans hc),RK (aA.holds c _ ((af c (by simp)).trans aB)) aF⟩
     split at h
     ·rename_i hr
      split at h
      ·rename_i hle
       rw[yO] at h
       refine cv.of h <| bH.val fun K' B' aa af C ρ F a w aA hS=>?_
       obtain⟨aj,ak⟩:=key K' B' aa af C ρ F a w aA hS
       exact(De az bB aj ak).1 hr (Nat.le_of_ble_eq_true hle)
      ·exact h.elim
     ·rename_i hr
      split at h
      ·rename_i bF
       rw[FL] at h
       refine cv.of h <| bH.val fun K' B' aa af C ρ F a w aA hS=>?_
       obtain⟨aj,ak⟩:=key K' B' aa af C ρ F a w aA hS
       exact(De az bB aj ak).2 hr (by simpa[Nat.blt_eq] using bF)
      ·exact h.elim
    ·exact h.elim
   ·exact h.elim
  ·exact h.elim
 ·exact h.elim
end
end Go.Proofs.YteoamepgonpdlaaGreat
