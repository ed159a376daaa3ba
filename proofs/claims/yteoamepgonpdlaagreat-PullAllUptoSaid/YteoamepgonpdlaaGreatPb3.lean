/-
Part 3 of the proof that stands in YteoamepgonpdlaaGreatPbRow, with what it needs from the parts ahead; the parts of this text: Snd.
-/
import Derived.Deep.MidRow
import Derived.Test.YteoamepgonpdlaaGreatPb2
namespace Go.Proofs.YteoamepgonpdlaaGreat
set_option linter.unusedVariables false
set_option linter.unusedSimpArgs false
open Go.RowKit
def su:Option TypeDesc→J5→Bool
 |some (.int k),.int k'=>lC k k'
 |some .bool,.bool=>true
 |some .string,.str=>true
 |some (.pointer e),.ptr e'=>Nat.beq e e'
 |some (.slice e),.sl e'=>Nat.beq e e'
 |some (.struct _),.st=>true
 |some (.array n e),.arr wF e'=>Nat.beq n wF&&Nat.beq e e'
 |some (.map k e),.mp k' e'=>Nat.beq k k'&&Nat.beq e e'
 |some (.func _ _ _),.other=>true
 |_,_=>false
def FF:Value→bx→Bool
 | .int k n,.d (.int k' wF)=>lC k k'&&decide (n=wF)
 | .bool b,.d (.lit eX)=>b == eX
 | .string s,.d (.str l)=>decide (s.data.toList=l)
 | .slice none 0 0,.ee=>true
 | .pointer none,.raw (.pointer none)=>true
 | .map none,.raw (.map none)=>true
 | .nilFunc,.raw .nilFunc=>true
 |_,_=>false
def sw:List Value→List bx→Bool
 | [],[]=>true
 |v::vs,s::l=>FF v s&&sw vs l
 |_,_=>false
def qw (P:Program):List Field→List (Nat×Nat)→Bool
 | [],[]=>true
 |f::fs,(d,n)::l=>Nat.beq f.offset d&&(match P.info? f.type with
  |some i=>Nat.beq i.size n
  |none=>false)&& !Nat.beq n 0&&qw P fs l
 |_,_=>false
def Kc:Value→Bool→Bool
 | .agg _,false=>false
 |_,_=>true
def FG (P:Program) (T:Nat) (ti:cD):Bool:=match P.info? T,P.underlying T with
 |some i,some d=>Nat.beq i.size ti.size&&Nat.beq i.bytes ti.bytes&&(d.isRow == ti.row)&&su (some d) ti.eu&&(match i.zero with
  |some z=>sw z.cells.toList ti.zero&&Kc z d.isRow
  |none=>false)&&(match d with
  | .struct fs=>qw P fs.toList ti.l5
  |_=>true)&&Nat.ble ti.bytes 32768&&(match ti.u with
  |some u=>Nat.beq (aM u) ti.size
  |none=>true)&& !Nat.beq ti.size 0&&Nat.beq ti.zero.length ti.size
 |_,_=>false
def c4.all (p:Nat→cD→Bool):c4→Bool
 | .leaf=>true
 | .node l k x r=>l.all p&&p k x&&r.all p
theorem c4.FH {p:Nat→cD→Bool}: ∀(t:c4),t.all p=true→ ∀T ti,t.find T=some ti→p T ti=true
 | .leaf,_,T,ti,h=>by simp[c4.find] at h
 | .node l k x r,ha,T,ti,h=>by
  simp only[c4.all,Bool.and_eq_true] at ha
  unfold c4.find at h
  split at h
  ·exact c4.FH l ha.1.1 T ti h
  ·split at h
   ·rename_i e
    have:=Nat.eq_of_beq_eq_true e
    injection h with h
    subst this h
    exact ha.1.2
   ·exact c4.FH r ha.2 T ti h
def dP (P:Program) (tt:c4):Prop:= ∀T ti,tt.find T=some ti→FG P T ti=true
theorem dP.of {P:Program} {tt:c4} (h:tt.all (FG P)=true):dP P tt:=c4.FH tt h
theorem nD {i j:IntKind} (h:lC i j=true):i=j:=by cases i <;>cases j <;>first |rfl |(simp[lC] at h)
structure lD (P:Program) (T:Nat) (ti:cD) (i:TypeInfo) (d:TypeDesc):Prop where
 info:P.info? T=some i
 und:P.underlying T=some d
 size:i.size=ti.size
 bytes:i.bytes=ti.bytes
 row:d.isRow=ti.row
 eu:su (some d) ti.eu=true
 zero: ∃z,i.zero=some z∧sw z.cells.toList ti.zero=true
 l5: ∀fs,d= .struct fs→qw P fs.toList ti.l5=true
 small:ti.bytes≤32768
 u: ∀u,ti.u=some u→aM u=ti.size
 pos:ti.size≠0
 FI:ti.zero.length=ti.size
 Ke: ∀z,i.zero=some z→d.isRow=false→z.cells= #[z]
theorem dP.at_ {P:Program} {tt:c4} (h:dP P tt) {T:Nat} {ti:cD} (hf:tt.find T=some ti): ∃i d,lD P T ti i d:=by
 have hc:=h T ti hf
 unfold FG at hc
 split at hc
 ·rename_i i d ay hd
  simp only[Bool.and_eq_true,Bool.not_eq_true',beq_iff_eq] at hc
  obtain⟨⟨⟨⟨⟨⟨⟨⟨⟨aa,af⟩,aA⟩,bE⟩,ec⟩,j5⟩,wG⟩,j6⟩,q6⟩,Ah⟩:=hc
  refine⟨i,d,ay,hd,Nat.eq_of_beq_eq_true aa,Nat.eq_of_beq_eq_true af,aA,bE,?_,?_,Nat.le_of_ble_eq_true wG,?_,fun e=>by rw[e] at q6;simp at q6,Nat.eq_of_beq_eq_true Ah,?_⟩
  ·split at ec
   ·rename_i z aS
    exact⟨z,aS,(Bool.and_eq_true _ _▸ec).1⟩
   ·cases ec
  ·rintro fs rfl
   exact j5
  ·intro u hu
   rw[hu] at j6
   exact Nat.eq_of_beq_eq_true j6
  ·intro z aS hr
   rw[aS] at ec
   simp only[Bool.and_eq_true] at ec
   have ec:=ec.2
   rw[hr] at ec
   cases z <;>first |rfl |(simp[Kc] at ec)
 ·cases hc
theorem lD.sl {P:Program} {T:Nat} {ti:cD} {i:TypeInfo} {d:TypeDesc} (h:lD P T ti i d) {e:Nat} (au:ti.eu= .sl e):P.underlying T=some (.slice e):=by
 have:=h.eu
 rw[au] at this
 rw[h.und]
 cases d <;>simp[su] at this⊢
 exact this
theorem lD.str {P:Program} {T:Nat} {ti:cD} {i:TypeInfo} {d:TypeDesc} (h:lD P T ti i d) (au:ti.eu= .str):P.underlying T=some .string:=by
 have:=h.eu
 rw[au] at this
 rw[h.und]
 cases d <;>simp[su] at this⊢
theorem lD.int {P:Program} {T:Nat} {ti:cD} {i:TypeInfo} {d:TypeDesc} (h:lD P T ti i d) {k:IntKind} (au:ti.eu= .int k):P.underlying T=some (.int k):=by
 have:=h.eu
 rw[au] at this
 rw[h.und]
 cases d <;>simp[su] at this⊢
 exact nD this
theorem lD.ptr {P:Program} {T:Nat} {ti:cD} {i:TypeInfo} {d:TypeDesc} (h:lD P T ti i d) {e:Nat} (au:ti.eu= .ptr e):P.underlying T=some (.pointer e):=by
 have:=h.eu
 rw[au] at this
 rw[h.und]
 cases d <;>simp[su] at this⊢
 exact this
theorem lD.st {P:Program} {T:Nat} {ti:cD} {i:TypeInfo} {d:TypeDesc} (h:lD P T ti i d) (au:ti.eu= .st): ∃fs,P.underlying T=some (.struct fs)∧d= .struct fs:=by
 have:=h.eu
 rw[au] at this
 rw[h.und]
 cases d <;>simp[su] at this⊢
theorem Kf {P:Program}: ∀(fs:List Field) (l:List (Nat×Nat)),qw P fs l=true→ ∀(f d n:Nat),l[f]? =some (d,n)→ ∃fd i,fs[f]? =some fd∧fd.offset=d∧P.info? fd.type=some i∧i.size=n∧n≠0
 | [],[],_,f,d,n,h=>by simp at h
 |g::fs,(a,b)::l,av,0,d,n,h=>by
  simp only[qw,Bool.and_eq_true,Bool.not_eq_true'] at av
  simp only[List.getElem?_cons_zero,Option.some.injEq,Prod.mk.injEq] at h
  obtain⟨rfl,rfl⟩:=h
  obtain⟨⟨⟨aa,af⟩,aA⟩,_⟩:=av
  split at af
  ·rename_i i ay
   exact⟨g,i,rfl,Nat.eq_of_beq_eq_true aa,ay,Nat.eq_of_beq_eq_true af,fun e=>by subst e;simp at aA⟩
  ·cases af
 |g::fs,(a,b)::l,av,f+1,d,n,h=>by
  simp only[qw,Bool.and_eq_true] at av
  simpa using Kf fs l av.2 f d n (by simpa using h)
 | [],_::_,av,_,_,_,_=>by simp[qw] at av
 |_::_,[],av,_,_,_,_=>by simp[qw] at av
section
variable {P:Program} {tt:c4} {N:Nat} {ids:List Nat} {o:Oper} {K:aQ} {B:aG}
theorem bI.val {v:aN} {rc:List Nat} (h: ∀(K':aQ) (B':aG),(∀x,x∈o.op.operands→aU K' x=aU K x)→(∀c,c∈rc→ax B' c=ax B c)→
  ∀(C:Ctx) (ρ:Nat→bn) (F:Nat→Nat→Prop) (a:Act) (w:World),Mem ids C B' ρ F w→ei K' ρ (bS C B' F w) a w→ ∃x,(execOp a.eval o).run P w= .ok (.value x) w∧cj ρ (bS C B' F w) w v x):
  bI P N ids o K B v ⟨rc,[],[]⟩:=by
 rintro K' B' aa af - C a w ⟨hn,hd,ρ,F,az,hS⟩ bH fl Q hK
 obtain⟨x,hx,hv⟩:=h K' B' aa af C ρ F a w az hS
 unfold Oper.wp
 rw[hx,Oper.upon_value]
 exact hK _ _ ⟨lz.trans hn,put_defers.trans hd,ρ,F,az,hS.lB (fun e he=>by rw[hn];exact bH e he) hv⟩
theorem bI.new {v:aN} {rc:List Nat} (h: ∀(K':aQ) (B':aG),(∀x,x∈o.op.operands→aU K' x=aU K x)→(∀c,c∈rc→ax B' c=ax B c)→
  ∀(C:Ctx) (ρ:Nat→bn) (F:Nat→Nat→Prop) (a:Act) (w:World),Mem ids C B' ρ F w→ei K' ρ (bS C B' F w) a w→ ∃x w',(execOp a.eval o).run P w= .ok (.value x) w'∧Below w.heap.size w w'∧
   (∀I:Nat→Prop,Ext (bS C B' F w) w I w'→(∀b,w.heap.size≤b→b < w'.heap.size→I b)→cj ρ I w' v x)):
  bI P N ids o K B v ⟨rc,[],[]⟩:=by
 rintro K' B' aa af - C a w ⟨hn,hd,ρ,F,az,hS⟩ bH fl Q hK
 obtain⟨x,w',hx,ag,hv⟩:=h K' B' aa af C ρ F a w az hS
 obtain⟨bT,he⟩:=az.below ag
 unfold Oper.wp
 rw[hx,Oper.upon_value]
 refine hK _ _ ⟨lz.trans hn,put_defers.trans hd,ρ,F,bT,(hS.mono he fun _ _ _=>rfl).lB (fun e he=>by rw[hn];exact bH e he) (hv _ he fun b aa af=>⟨af,?_,fun c ch hc hF=>?_⟩)⟩
 ·exact .inr (.inr (az.fresh aa))
 ·have:=(az.own c ch hc b hF).1;omega
section
variable {K':aQ} {ρ:Nat→bn} {I:Nat→Prop} {a:Act} {w:World} {x:Operand}
theorem ei.ev (hS:ei K' ρ I a w) {s:aN} (h:aU K' x=s):cj ρ I w s (a.eval x):=h▸hS.get x
theorem ei.int (hS:ei K' ρ I a w) {k:IntKind} {n:Int} (h:aU K' x= .c (.one (.d (.int k n)))):a.eval x= .int k n:=hS.ev h
theorem ei.lit (hS:ei K' ρ I a w) {b:Bool} (h:aU K' x= .c (.one (.d (.lit b)))):a.eval x= .bool b:=hS.ev h
theorem ei.bool (hS:ei K' ρ I a w) {b:Bool} (h:aU K' x= .c (.one (.d (.bool b)))):a.eval x= .bool b:=hS.ev h
theorem ei.str (hS:ei K' ρ I a w) {s:List UInt8} (h:aU K' x= .c (.one (.d (.str s)))):a.eval x= .string ⟨s.toArray⟩:=hS.ev h
theorem ei.ptr (hS:ei K' ρ I a w) {c o:Nat} (h:aU K' x= .c (.one (.ptr c o))):a.eval x= .pointer (some ⟨(ρ c).bO,o,none⟩):=hS.ev h
theorem ei.fh (hS:ei K' ρ I a w) {c s i o:Nat} (h:aU K' x= .c (.one (.fh c s i o))):a.eval x= .pointer (some ⟨(ρ c).bO,i*s+o,none⟩):=hS.ev h
theorem ei.os (hS:ei K' ρ I a w) {c s o n:Nat} (h:aU K' x= .c (.one (.os c s o n))):a.eval x= .slice (if(ρ c).cap=o then(ρ c).A else(ρ c).A.map (·.add (o*s))) n ((ρ c).cap - o):=hS.ev h
theorem ei.raw (hS:ei K' ρ I a w) {v:Value} (h:aU K' x= .c (.one (.raw v))):a.eval x=v:=hS.ev h
theorem ei.own (hS:ei K' ρ I a w) {c:Nat} (h:aU K' x= .c (.one (.own c))):a.eval x=(ρ c).hdr:=hS.ev h
theorem ei.ee (hS:ei K' ρ I a w) (h:aU K' x= .c (.one .ee)):a.eval x= .slice none 0 0:=hS.ev h
theorem ei.cW (hS:ei K' ρ I a w) {u:U} {xs:List (aJ u)} (h:aU K' x= .c (.one (.d (.cW u xs)))):cg I w (.sl u) xs (fun _=>some (a.eval x)):=hS.ev h
end
theorem ym {k:IntKind} {n:Int} (h:uS k n):k.wrap n=n:=by
 cases k <;>simp only[uS] at h <;>simp[IntKind.wrap,IntKind.bits,IntKind.signed] <;>omega
theorem yo {x y:Operand} {op:BinOp} {T gB:TypeId}:x∈(Op.binOp op T x y gB).operands∧y∈(Op.binOp op T x y gB).operands:=by simp[Op.operands]
theorem toList_mk (l:List UInt8):(⟨l.toArray⟩:ByteArray).toList=l:=by rw[ByteArray.toList_eq]
theorem wH (l:List UInt8):(⟨l.toArray⟩:ByteArray).size=l.length:=by simp[ByteArray.size]
theorem FJ {op:BinOp} {T gB:TypeId} {x y:Operand} {a:Act} {w:World} {k:IntKind} {n m r:Int} (av:o.op= .binOp op T x y gB) (aa:a.eval x= .int k n) (af:a.eval y= .int k m)
  (h:(op= .add∧r=n+m)∨(op= .sub∧r=n - m)∨(op= .mul∧r=n*m)) (hr:uS k r):(execOp a.eval o).run P w= .ok (.value (.int k r)) w:=by
 simp only[execOp,av,aa,af]
 rcases h with⟨rfl,rfl⟩ |⟨rfl,rfl⟩ |⟨rfl,rfl⟩ <;>simp[eqGuard,go_sem,ym hr,Op.intArith]
theorem Kg {op:BinOp} {T gB:TypeId} {x y:Operand} {a:Act} {w:World} {k:IntKind} {n m r:Int} (av:o.op= .binOp op T x y gB) (aa:a.eval x= .int k n) (af:a.eval y= .int k m)
  (hn:0≤n) (hm:0 < m) (h:(op= .quo∧r=n/m)∨(op= .rem∧r=n % m)) (hr:uS k r):(execOp a.eval o).run P w= .ok (.value (.int k r)) w:=by
 have Ai:m≠0:=by omega
 simp only[execOp,av,aa,af]
 rcases h with⟨rfl,rfl⟩ |⟨rfl,rfl⟩
 ·have e:n.tdiv m=n/m:=Int.tdiv_eq_ediv_of_nonneg hn
  simp[eqGuard,go_sem,Op.intDiv,Ai,e,ym hr]
 ·have e:n.tmod m=n % m:=Int.tmod_eq_emod_of_nonneg hn
  simp[eqGuard,go_sem,Op.intDiv,Ai,e]
theorem yp {op:BinOp} {T gB:TypeId} {x y:Operand} {a:Act} {w:World} {k:IntKind} {n m:Int} {b:Bool} (av:o.op= .binOp op T x y gB) (aa:a.eval x= .int k n) (af:a.eval y= .int k m)
  (h:(op= .eql∧b=decide (n=m))∨(op= .neq∧b= !decide (n=m))∨(op= .lss∧b=decide (n < m))∨(op= .leq∧b=decide (n≤m))∨(op= .gtr∧b=decide (m < n))∨(op= .geq∧b=decide (m≤n))):
  (execOp a.eval o).run P w= .ok (.value (.bool b)) w:=by
 simp only[execOp,av,aa,af]
 rcases h with⟨rfl,rfl⟩ |⟨rfl,rfl⟩ |⟨rfl,rfl⟩ |⟨rfl,rfl⟩ |⟨rfl,rfl⟩ |⟨rfl,rfl⟩
 all_goals
  simp[eqGuard,go_sem,Op.intCmp]
 all_goals
  by_cases e:n=m <;>simp[e]
theorem Kh {op:BinOp} {T gB:TypeId} {x y:Operand} {a:Act} {w:World} {k ey:IntKind} {n m r:Int} (av:o.op= .binOp op T x y gB) (aa:a.eval x= .int k n) (af:a.eval y= .int ey m)
  (hn:0≤n) (hm:0≤m) (ag:m.toNat≤k.bits) (h:(op= .shl∧r=n*(2 ^m.toNat:Nat))∨(op= .shr∧r=n/(2 ^m.toNat:Nat))) (hr:op= .shl→uS k r):(execOp a.eval o).run P w= .ok (.value (.int k r)) w:=by
 have Ai: ¬m < 0:=by omega
 have bt:min m.toNat k.bits=m.toNat:=by omega
 simp only[execOp,av,aa,af]
 rcases h with⟨rfl,rfl⟩ |⟨rfl,rfl⟩
 ·have e:=ym (hr rfl)
  simp only[Int.natCast_pow,Int.cast_ofNat_Int] at e⊢
  have hs:Op.shift .shl k n ey m=pure (.int k (n*2 ^m.toNat)):=by
   unfold Op.shift
   rw[if_neg Ai,bt]
   simp only
   rw[e]
  simp only[eqGuard,binOp,hs]
  simp[go_sem]
 ·have e:n.fdiv (2 ^m.toNat)=n/(2 ^m.toNat):=by rw[Int.fdiv_eq_ediv_of_nonneg];exact Int.pow_nonneg (by decide)
  simp only[Int.natCast_pow,Int.cast_ofNat_Int]
  have hs:Op.shift .shr k n ey m=pure (.int k (n/2 ^m.toNat)):=by
   unfold Op.shift
   rw[if_neg Ai,bt]
   simp only
   rw[e]
  simp only[eqGuard,binOp,hs]
  simp[go_sem]
theorem yq {op:BinOp} {T gB:TypeId} {x y:Operand} {a:Act} {w:World} {s t:List UInt8} {b:Bool} (av:o.op= .binOp op T x y gB) (aa:a.eval x= .string ⟨s.toArray⟩) (af:a.eval y= .string ⟨t.toArray⟩)
  (h:(op= .eql∧b=decide (s=t))∨(op= .neq∧b= !decide (s=t))∨(op= .lss∧b=Op.bytesLess s t)∨(op= .leq∧b=(Op.bytesLess s t||decide (s=t)))∨(op= .gtr∧b= !(Op.bytesLess s t||decide (s=t)))∨(op= .geq∧b= !Op.bytesLess s t)):
  (execOp a.eval o).run P w= .ok (.value (.bool b)) w:=by
 have e:(s == t)=decide (s=t):=by by_cases e:s=t <;>simp[e]
 simp only[execOp,av,aa,af]
 rcases h with⟨rfl,rfl⟩ |⟨rfl,rfl⟩ |⟨rfl,rfl⟩ |⟨rfl,rfl⟩ |⟨rfl,rfl⟩ |⟨rfl,rfl⟩ <;>simp[eqGuard,go_sem,Op.stringOp,toList_mk,e]
theorem Qz (s t:List UInt8):(⟨s.toArray⟩:ByteArray)++⟨t.toArray⟩=⟨(s++t).toArray⟩:=by
 have:((⟨s.toArray⟩:ByteArray)++⟨t.toArray⟩).data=(s++t).toArray:=by
  simp[ByteArray.data_append]
 cases h:(⟨s.toArray⟩:ByteArray)++⟨t.toArray⟩
 rw[h] at this
 simp only at this
 rw[this]
theorem QA {T gB:TypeId} {x y:Operand} {a:Act} {w:World} {s t:List UInt8} (av:o.op= .binOp .add T x y gB) (aa:a.eval x= .string ⟨s.toArray⟩) (af:a.eval y= .string ⟨t.toArray⟩)
  (h:s.length+t.length≤4294967296):(execOp a.eval o).run P w= .ok (.value (.string ⟨(s++t).toArray⟩)) w:=by
 simp only[execOp,av,aa,af]
 have hn: ¬(((s.length+t.length:Nat):Int) >IntKind.i64.max):=by
  have:IntKind.i64.max=9223372036854775807:=by decide
  omega
 simp only[eqGuard,binOp,Op.stringOp,wH,Qz]
 rw[if_neg hn]
 simp[go_sem]
end
end Go.Proofs.YteoamepgonpdlaaGreat
set_option linter.unusedVariables false
set_option linter.unusedSimpArgs false
namespace Go.Proofs.YteoamepgonpdlaaGreat
open Go.RowKit
section
variable {P:Program} {tt:c4} {N:Nat} {ids:List Nat} {o:Oper} {K:aQ} {B:aG} {k:aN→fk→Prop}
theorem bI.one {x:Operand} {Aj v:aN} (hx:aU K x=Aj) (hm:x∈o.op.operands)
  (h: ∀(K':aQ) (ρ:Nat→bn) (I:Nat→Prop) (a:Act) (w:World),ei K' ρ I a w→aU K' x=Aj→ ∃r,(execOp a.eval o).run P w= .ok (.value r) w∧cj ρ I w v r):bI P N ids o K B v bt:=
 bI.val fun K' B' aa af C ρ F a w az hS=>h K' ρ _ a w hS ((aa x hm).trans hx)
theorem bI.two {x y:Operand} {Aj Ki v:aN} (hx:aU K x=Aj) (aF:aU K y=Ki) (hm:x∈o.op.operands) (hn:y∈o.op.operands)
  (h: ∀(K':aQ) (ρ:Nat→bn) (I:Nat→Prop) (a:Act) (w:World),ei K' ρ I a w→aU K' x=Aj→aU K' y=Ki→ ∃r,(execOp a.eval o).run P w= .ok (.value r) w∧cj ρ I w v r):bI P N ids o K B v bt:=
 bI.val fun K' B' aa af C ρ F a w az hS=>h K' ρ _ a w hS ((aa x hm).trans hx) ((aa y hn).trans aF)
theorem QB {a b:Int} (aa:0≤a) (af:a≤9223372036854775807) (aA:0≤b) (bE:b≤9223372036854775807):
  IntKind.i64.wrap (((BitVec.ofInt 64 a ||| BitVec.ofInt 64 b).toNat:Nat):Int)=((a.toNat ||| b.toNat:Nat):Int):=by
 have ai:(BitVec.ofInt 64 a).toNat=a.toNat:=by rw[BitVec.toNat_ofInt];omega
 have aq:(BitVec.ofInt 64 b).toNat=b.toNat:=by rw[BitVec.toNat_ofInt];omega
 rw[BitVec.toNat_or,ai,aq]
 have h:a.toNat ||| b.toNat < 2 ^63:=Nat.or_lt_two_pow (by omega) (by omega)
 exact ym (by simp only[uS];omega)
theorem Kj {op:BinOp} {T gB:TypeId} {x y:Operand} (av:o.op= .binOp op T x y gB)
  (hp:(∃e,P.underlying T=some (.pointer e))∨ ∀c d,aU K x≠ .c (.one (.ptr c d))∧aU K x≠ .c (.one (.raw (.pointer none))))
  (h:Cu op (aU K x) (aU K y) k): ∃v,k v bt∧bI P N ids o K B v bt:=by
 have bw:x∈o.op.operands:=by rw[av];exact yo.1
 have bX:y∈o.op.operands:=by rw[av];exact yo.2
 unfold Cu at h
 split at h
 ·rename_i i a j b hx aF
  have two: ∀(v:aN) (hv:i=j→ ∀(K':aQ) (ρ:Nat→bn) (I:Nat→Prop) (ac:Act) (w:World),ac.eval x= .int i a→ac.eval y= .int i b→ ∃r,(execOp ac.eval o).run P w= .ok (.value r) w∧cj ρ I w v r),lC i j=true→bI P N ids o K B v bt:=fun v hv fD=>
   bI.two hx aF bw bX fun K' ρ I ac w hS ai aq=>hv (nD fD) K' ρ I ac w (hS.int ai) (by rw[nD fD];exact hS.int aq)
  have sh: ∀(v:aN) (hv: ∀(K':aQ) (ρ:Nat→bn) (I:Nat→Prop) (ac:Act) (w:World),ac.eval x= .int i a→ac.eval y= .int j b→ ∃r,(execOp ac.eval o).run P w= .ok (.value r) w∧cj ρ I w v r),bI P N ids o K B v bt:=fun v hv=>
   bI.two hx aF bw bX fun K' ρ I ac w hS ai aq=>hv K' ρ I ac w (hS.int ai) (hS.int aq)
  split at h
  ·rename_i fD;have h:=wB h;exact⟨_,h.2,two _ (fun _ K' ρ I ac w aa af=>⟨_,FJ av aa af (.inl ⟨rfl,rfl⟩) h.1,rfl⟩) fD⟩
  ·rename_i fD;have h:=wB h;exact⟨_,h.2,two _ (fun _ K' ρ I ac w aa af=>⟨_,FJ av aa af (.inr (.inl ⟨rfl,rfl⟩)) h.1,rfl⟩) fD⟩
  ·rename_i fD;have h:=wB h;exact⟨_,h.2,two _ (fun _ K' ρ I ac w aa af=>⟨_,FJ av aa af (.inr (.inr ⟨rfl,rfl⟩)) h.1,rfl⟩) fD⟩
  ·rename_i fD;have h':=wB h.2;exact⟨_,h'.2,two _ (fun _ K' ρ I ac w aa af=>⟨_,Kg av aa af h.1.1 h.1.2 (.inl ⟨rfl,rfl⟩) h'.1,rfl⟩) fD⟩
  ·rename_i fD;have h':=wB h.2;exact⟨_,h'.2,two _ (fun _ K' ρ I ac w aa af=>⟨_,Kg av aa af h.1.1 h.1.2 (.inr ⟨rfl,rfl⟩) h'.1,rfl⟩) fD⟩
  ·split at h
   ·rename_i ay
    have:=nD ay
    subst this
    have h':=wB h.2
    exact⟨_,h'.2,sh _ fun K' ρ I ac w aa af=>⟨_,Kh av aa af h.1.1 h.1.2.1 (by simp[IntKind.bits];have:=h.1.2.2;omega) (.inl ⟨rfl,rfl⟩) (fun _=>h'.1),rfl⟩⟩
   ·exact h.elim
  ·split at h
   ·rename_i ay
    have:=nD ay
    subst this
    exact⟨_,h.2,sh _ fun K' ρ I ac w aa af=>⟨_,Kh av aa af h.1.1 h.1.2.1 (by simp[IntKind.bits];have:=h.1.2.2;omega) (.inr ⟨rfl,rfl⟩) (fun e=>by cases e),rfl⟩⟩
   ·exact h.elim
  ·rename_i fD
   split at h
   ·rename_i ay
    have:=nD ay
    subst this
    refine⟨_,h.2,two _ (fun ak K' ρ I ac w aa af=>⟨_,?_,rfl⟩) fD⟩
    have e:=QB h.1.1 h.1.2.1 h.1.2.2.1 h.1.2.2.2
    have hs:Op.intBits .or .i64 a b=pure (.int .i64 ((a.toNat ||| b.toNat:Nat):Int)):=by
     exact congrArg (fun z:Int=>(pure (Value.int .i64 z):Sem Value)) e
    simp only[execOp,av,aa,af,eqGuard,binOp,hs]
    simp[go_sem]
   ·exact h.elim
  ·rename_i fD;exact⟨_,h,two _ (fun _ K' ρ I ac w aa af=>⟨_,yp av aa af (.inl ⟨rfl,rfl⟩),rfl⟩) fD⟩
  ·rename_i fD;exact⟨_,h,two _ (fun _ K' ρ I ac w aa af=>⟨_,yp av aa af (.inr (.inl ⟨rfl,rfl⟩)),rfl⟩) fD⟩
  ·rename_i fD;exact⟨_,h,two _ (fun _ K' ρ I ac w aa af=>⟨_,yp av aa af (.inr (.inr (.inl ⟨rfl,rfl⟩))),rfl⟩) fD⟩
  ·rename_i fD;exact⟨_,h,two _ (fun _ K' ρ I ac w aa af=>⟨_,yp av aa af (.inr (.inr (.inr (.inl ⟨rfl,rfl⟩)))),rfl⟩) fD⟩
  ·rename_i fD;exact⟨_,h,two _ (fun _ K' ρ I ac w aa af=>⟨_,yp av aa af (.inr (.inr (.inr (.inr (.inl ⟨rfl,rfl⟩))))),rfl⟩) fD⟩
  ·rename_i fD;exact⟨_,h,two _ (fun _ K' ρ I ac w aa af=>⟨_,yp av aa af (.inr (.inr (.inr (.inr (.inr ⟨rfl,rfl⟩))))),rfl⟩) fD⟩
  ·exact h.elim
 ·rename_i s t hx aF
  have two: ∀(v:aN) (hv: ∀(K':aQ) (ρ:Nat→bn) (I:Nat→Prop) (ac:Act) (w:World),ac.eval x= .string ⟨s.toArray⟩→ac.eval y= .string ⟨t.toArray⟩→ ∃r,(execOp ac.eval o).run P w= .ok (.value r) w∧cj ρ I w v r),bI P N ids o K B v bt:=fun v hv=>
   bI.two hx aF bw bX fun K' ρ I ac w hS ai aq=>hv K' ρ I ac w (hS.str ai) (hS.str aq)
  split at h
  ·exact⟨_,h.2,two _ fun K' ρ I ac w aa af=>⟨_,QA av aa af h.1,rfl⟩⟩
  ·exact⟨_,h,two _ fun K' ρ I ac w aa af=>⟨_,yq av aa af (.inl ⟨rfl,rfl⟩),rfl⟩⟩
  ·exact⟨_,h,two _ fun K' ρ I ac w aa af=>⟨_,yq av aa af (.inr (.inl ⟨rfl,rfl⟩)),rfl⟩⟩
  ·exact⟨_,h,two _ fun K' ρ I ac w aa af=>⟨_,yq av aa af (.inr (.inr (.inl ⟨rfl,rfl⟩))),rfl⟩⟩
  ·exact⟨_,h,two _ fun K' ρ I ac w aa af=>⟨_,yq av aa af (.inr (.inr (.inr (.inl ⟨rfl,rfl⟩)))),rfl⟩⟩
  ·exact⟨_,h,two _ fun K' ρ I ac w aa af=>⟨_,yq av aa af (.inr (.inr (.inr (.inr (.inl ⟨rfl,rfl⟩))))),rfl⟩⟩
  ·exact⟨_,h,two _ fun K' ρ I ac w aa af=>⟨_,yq av aa af (.inr (.inr (.inr (.inr (.inr ⟨rfl,rfl⟩))))),rfl⟩⟩
  ·exact h.elim
 ·rename_i c d hx aF
  obtain⟨e,hu⟩:=hp.resolve_right fun h=>(h c d).1 hx
  have q: ∀(p:Addr) (w:World),(Op.equalIn (9999+1) T (.pointer (some p)) (.pointer none)).run P w= .ok false w:=fun p w=>by
   unfold Op.equalIn
   simp[run_underlying hu]
  split at h
  ·refine⟨_,h,bI.two hx aF bw bX fun K' ρ I ac w hS ai aq=>⟨_,?_,rfl⟩⟩
   simp only[execOp,av,hS.ptr ai,hS.raw aq]
   simp[eqGuard,binOp,Op.equal,Op.maxDepth,q]
  ·refine⟨_,h,bI.two hx aF bw bX fun K' ρ I ac w hS ai aq=>⟨_,?_,rfl⟩⟩
   simp only[execOp,av,hS.ptr ai,hS.raw aq]
   simp[eqGuard,binOp,Op.equal,Op.maxDepth,q]
  ·exact h.elim
 ·rename_i hx aF
  obtain⟨e,hu⟩:=hp.resolve_right fun h=>(h 0 0).2 hx
  have q: ∀(w:World),(Op.equalIn (9999+1) T (.pointer none) (.pointer none)).run P w= .ok true w:=fun w=>by
   unfold Op.equalIn
   simp[run_underlying hu]
  split at h
  ·refine⟨_,h,bI.two hx aF bw bX fun K' ρ I ac w hS ai aq=>⟨_,?_,rfl⟩⟩
   simp only[execOp,av,hS.raw ai,hS.raw aq]
   simp[eqGuard,binOp,Op.equal,Op.maxDepth,q]
  ·refine⟨_,h,bI.two hx aF bw bX fun K' ρ I ac w hS ai aq=>⟨_,?_,rfl⟩⟩
   simp only[execOp,av,hS.raw ai,hS.raw aq]
   simp[eqGuard,binOp,Op.equal,Op.maxDepth,q]
  ·exact h.elim
 ·exact h.elim
theorem Kk {op:BinOp} {T gB:TypeId} {x y:Operand} (av:o.op= .binOp op T x y gB) (aX: ∀T,ye tt T=true→ ∃e i,P.underlying T=some (.pointer e)∧P.info? e=some i∧i.size≠0)
  (hp: ∃e,P.underlying T=some (.pointer e)) (h:Cw tt T op (aU K x) (aU K y) k): ∃v,k v bt∧bI P N ids o K B v bt:=by
 have bw:x∈o.op.operands:=by rw[av];exact yo.1
 have bX:y∈o.op.operands:=by rw[av];exact yo.2
 unfold Cw at h
 split at h
 ·rename_i p hx
  obtain⟨e,hu⟩:=hp
  have key: ∀(b:Bool) (r:Option Nat),(∀(ρ:Nat→bn) (I:Nat→Prop) (w:World) (v:Value),cj ρ I w (aU K y) v→v= .pointer (nu r))→(b=true→p=r∧(r=none∨ye tt T=true))→(b=false→(p=none∧r≠none)∨(p≠none∧r=none))→(op= .eql→bI P N ids o K B (.c (.one (.d (.lit b)))) bt)∧(op= .neq→bI P N ids o K B (.c (.one (.d (.lit !b)))) bt):=by
   intro b r aF aa af
   have q: ∀(w:World),(Op.equalIn (9999+1) T (.pointer (nu p)) (.pointer (nu r))).run P w= .ok b w:=by
    intro w
    unfold Op.equalIn
    cases b with
    |true=>
     obtain⟨rfl,aA⟩:=aa rfl
     cases p with
     |none=>simp[run_underlying hu,nu]
     |some p=>
      rcases aA with aA |aA
      ·cases aA
      ·obtain⟨e',i,cE,ey,fo⟩:=aX T aA
       rw[hu] at cE
       injection cE with cE
       injection cE with cE
       subst cE
       simp[run_underlying hu,nu,sizeOf,typeInfo,ey,fo,sameAddr]
    |false=>
     rcases af rfl with⟨rfl,aA⟩ |⟨aA,rfl⟩
     ·cases r with
      |none=>exact absurd rfl aA
      |some r=>simp[run_underlying hu,nu]
     ·cases p with
      |none=>exact absurd rfl aA
      |some p=>simp[run_underlying hu,nu]
   refine⟨fun ai=>?_,fun ai=>?_⟩
   ·subst ai
    refine bI.val fun K' B' g1 g2 C ρ F a w az hS=>⟨.bool b,?_,rfl⟩
    have ai:a.eval x= .pointer (nu p):=hS.ev ((g1 x bw).trans hx)
    have aq:a.eval y= .pointer (nu r):=aF _ _ _ _ (hS.ev (g1 y bX))
    simp only[execOp,av,ai,aq]
    simp[eqGuard,binOp,Op.equal,Op.maxDepth,q]
   ·subst ai
    refine bI.val fun K' B' g1 g2 C ρ F a w az hS=>⟨.bool !b,?_,rfl⟩
    have ai:a.eval x= .pointer (nu p):=hS.ev ((g1 x bw).trans hx)
    have aq:a.eval y= .pointer (nu r):=aF _ _ _ _ (hS.ev (g1 y bX))
    simp only[execOp,av,ai,aq]
    simp[eqGuard,binOp,Op.equal,Op.maxDepth,q]
  have two: ∀(f:Bool→Prop),Cv tt T p (aU K y) f→ ∃b,f b∧(op= .eql→bI P N ids o K B (.c (.one (.d (.lit b)))) bt)∧(op= .neq→bI P N ids o K B (.c (.one (.d (.lit !b)))) bt):=by
   intro f h
   unfold Cv at h
   split at h
   ·rename_i aF
    have eL: ∀(ρ:Nat→bn) (I:Nat→Prop) (w:World) (v:Value),cj ρ I w (aU K y) v→v= .pointer (nu none):=fun ρ I w v hv=>by rw[aF] at hv;exact hv
    cases hp:p with
    |some b=>exact⟨_,h.1 b hp,by
      have:=key false none eL (fun e=>by cases e) (fun _=>.inr ⟨by simp[hp],rfl⟩)
      exact this⟩
    |none=>exact⟨_,h.2 hp,key true none eL (fun _=>⟨hp,.inl rfl⟩) (fun e=>by cases e)⟩
   ·rename_i r aF
    have eL: ∀(ρ:Nat→bn) (I:Nat→Prop) (w:World) (v:Value),cj ρ I w (aU K y) v→v= .pointer (nu r):=fun ρ I w v hv=>by rw[aF] at hv;exact hv
    split at h
    ·have bA:ye tt T=true:=by assumption
     obtain⟨rfl,h⟩:=h
     exact⟨_,h,key _ _ eL (fun _=>⟨rfl,.inr bA⟩) (fun e=>by cases e)⟩
    ·exact h.elim
   ·exact h.elim
  split at h
  ·obtain⟨b,aa,af,_⟩:=two _ h
   exact⟨_,aa,af rfl⟩
  ·obtain⟨b,aa,_,af⟩:=two _ h
   exact⟨_,aa,af rfl⟩
  ·exact h.elim
 ·exact Kj av (.inl hp) h
theorem Kl {op:BinOp} {T gB:TypeId} {x y:Operand} (av:o.op= .binOp op T x y gB) (hu:P.underlying T=some .bool) {a:Bool} (hx:aU K x= .c (.one (.d (.bool a)))∨aU K x= .c (.one (.d (.lit a))))
  (h:Cx op a (aU K y) k): ∃v,k v bt∧bI P N ids o K B v bt:=by
 have bw:x∈o.op.operands:=by rw[av];exact yo.1
 have bX:y∈o.op.operands:=by rw[av];exact yo.2
 have q: ∀(a b:Bool) (w:World),(Op.equalIn (9999+1) T (.bool a) (.bool b)).run P w= .ok (a == b) w:=fun a b w=>by
  unfold Op.equalIn
  simp[run_underlying hu]
 have key: ∀(b:Bool) (r:Bool),(aU K y= .c (.one (.d (.bool b)))∨aU K y= .c (.one (.d (.lit b))))→(op= .eql∧r=(a == b))∨(op= .neq∧r= !(a == b))→bI P N ids o K B (.c (.one (.d (.bool r)))) bt:=fun b r aF hr=>
  bI.val fun K' B' aa af C ρ F ac w az hS=>by
   have ex:ac.eval x= .bool a:=by
    have:=hS.get x
    rw[aa x bw] at this
    rcases hx with hx |hx <;>(rw[hx] at this;exact this)
   have FK:ac.eval y= .bool b:=by
    have:=hS.get y
    rw[aa y bX] at this
    rcases aF with aF |aF <;>(rw[aF] at this;exact this)
   refine⟨.bool r,?_,rfl⟩
   rcases hr with⟨rfl,rfl⟩ |⟨rfl,rfl⟩ <;>(simp only[execOp,av,ex,FK];simp[eqGuard,binOp,Op.equal,Op.maxDepth,q])
 unfold Cx at h
 split at h
 ·exact⟨_,h,key _ _ (.inl ‹_›) (.inl ⟨rfl,rfl⟩)⟩
 ·exact⟨_,h,key _ _ (.inr ‹_›) (.inl ⟨rfl,rfl⟩)⟩
 ·exact⟨_,h,key _ _ (.inl ‹_›) (.inr ⟨rfl,rfl⟩)⟩
 ·exact⟨_,h,key _ _ (.inr ‹_›) (.inr ⟨rfl,rfl⟩)⟩
 ·exact h.elim
end
end Go.Proofs.YteoamepgonpdlaaGreat
set_option linter.unusedVariables false
set_option linter.unusedSimpArgs false
namespace Go.Proofs.YteoamepgonpdlaaGreat
open Go.RowKit
section
variable {ρ:Nat→bn} {I:Nat→Prop} {w:World}
theorem bZ.length: ∀(l:List bx) (vs:List Value),bZ ρ I w l vs→vs.length=l.length
 | [],_,h=>by rw[show _=[] from h];rfl
 |s::l,_,⟨v,r,e,aa,af⟩=>by rw[e,List.length_cons,List.length_cons,bZ.length l r af]
theorem bZ.get: ∀(l:List bx) (vs:List Value),bZ ρ I w l vs→ ∀(i:Nat) (s:bx),l[i]? =some s→ ∃v,vs[i]? =some v∧dI ρ I w s v
 | [],_,h,i,s,hs=>by simp at hs
 |t::l,_,⟨v,r,e,aa,af⟩,0,s,hs=>by
  simp only[List.getElem?_cons_zero,Option.some.injEq] at hs
  subst hs e
  exact⟨v,rfl,aa⟩
 |t::l,_,⟨v,r,e,aa,af⟩,i+1,s,hs=>by
  subst e
  simpa using bZ.get l r af i s (by simpa using hs)
theorem bZ.app: ∀(l m:List bx) (vs us:List Value),bZ ρ I w l vs→bZ ρ I w m us→bZ ρ I w (l++m) (vs++us)
 | [],m,_,us,h,h'=>by rw[show _=[] from h];exact h'
 |s::l,m,_,us,⟨v,r,e,aa,af⟩,h'=>⟨v,r++us,by rw[e];rfl,aa,bZ.app l m r us af h'⟩
theorem bZ.yt: ∀(n:Nat) (l:List bx) (vs:List Value),bZ ρ I w l vs→bZ ρ I w (l.take n) (vs.take n)
 |0,_,_,_=>rfl
 |n+1,[],_,h=>by rw[show _=[] from h];rfl
 |n+1,s::l,_,⟨v,r,e,aa,af⟩=>⟨v,r.take n,by rw[e];rfl,aa,bZ.yt n l r af⟩
theorem bZ.l7: ∀(n:Nat) (l:List bx) (vs:List Value),bZ ρ I w l vs→bZ ρ I w (l.drop n) (vs.drop n)
 |0,_,_,h=>h
 |n+1,[],_,h=>by rw[show _=[] from h];rfl
 |n+1,s::l,_,⟨v,r,e,aa,af⟩=>by rw[e];exact bZ.l7 n l r af
theorem bZ.splice {l cs:List bx} {vs us:List Value} {o:Nat} (h:bZ ρ I w l vs) (h':bZ ρ I w cs us):bZ ρ I w (Ab l o cs) (vs.take o++us++vs.drop (o+us.length)):=by
 unfold Ab
 rw[bZ.length cs us h']
 exact bZ.app _ _ _ _ (bZ.app _ _ _ _ (bZ.yt _ _ _ h) h') (bZ.l7 _ _ _ h)
theorem ok_one {s:bx} {v:Value} (h:s.ok=true) (hv:dI ρ I w s v):v.oneCell'=true:=by
 cases s with
 |d x=>
  cases x with
  |cW u xs=>obtain⟨A,cap,e,_⟩:=hv;injection e with e;rw[e];rfl
  |dg y=>rw[show v=qm y from hv];rcases y with _ |⟨b,n,c⟩ <;>rfl
  |fn y=>rw[show v=tG y from hv];rfl
  |_=>rw[show v=_ from hv];rfl
 |ptr c o=>rw[show v=_ from hv];rfl
 |own c=>rw[show v=_ from hv];rfl
 |el u x o=>obtain⟨b,p,e,_⟩:=hv;rw[e];rfl
 |fh c s i o=>rw[show v=_ from hv];rfl
 |os c s o n=>rw[show v=_ from hv];rfl
 |mp c=>rw[show v=_ from hv];rfl
 |eH f l=>obtain⟨vs,e,_⟩:=hv;rw[e];rfl
 |ee=>rw[show v=_ from hv];rfl
 |raw u=>
  rw[show v=u from hv]
  cases u <;>first |rfl |(simp[bx.ok] at h)
 |any=>simp[bx.ok] at h
theorem Km: ∀{l:List bx} {vs:List Value},Cp l=true→bZ ρ I w l vs→ ∀u∈vs,u.oneCell'=true
 | [],_,_,hv,u,hu=>by rw[show _=[] from hv] at hu;cases hu
 |s::l,_,h,⟨v,r,e,aa,af⟩,u,hu=>by
  simp only[Cp,Bool.and_eq_true] at h
  subst e
  rcases List.mem_cons.1 hu with rfl |hu
  ·exact ok_one h.1 aa
  ·exact Km h.2 af u hu
theorem FL {uT:aN} {l:List bx} {v:Value} (h:uQ uT=some l) (hv:cj ρ I w uT v): ∃vs,v.cells=List.toArray vs∧bZ ρ I w l vs∧ ∀u∈vs,u.oneCell'=true:=by
 unfold uQ at h
 split at h
 ·split at h
  ·rename_i s hs
   injection h with h
   subst h
   have aa:=ok_one hs hv
   refine⟨[v],?_,⟨v,[],rfl,hv,rfl⟩,fun u hu=>by simp at hu;rw[hu];exact aa⟩
   cases v <;>first |rfl |(simp[Value.oneCell'] at aa)
  ·cases h
 ·split at h
  ·rename_i l' aB
   injection h with h
   subst h
   obtain⟨vs,e,af⟩:=hv
   exact⟨vs,by rw[e];rfl,af,Km aB af⟩
  ·cases h
 ·cases h
end
def dx {α:Type} (f:Nat→α) (c:Nat) (x:α):Nat→α:=fun d=>if d=c then x else f d
theorem dN {α:Type} (f:Nat→α) (c:Nat) (x:α):dx f c x c=x:=if_pos rfl
theorem dL {α:Type} (f:Nat→α) {c d:Nat} (x:α) (h:d≠c):dx f c x d=f d:=if_neg h
theorem Kn {c:Nat}: ∀{K:aQ},tI c K=true→ ∀s,(look K s).has c=false
 | [],_,s=>rfl
 |(t,v)::K,h,s=>by
  simp only[tI,Bool.and_eq_true,Bool.not_eq_true'] at h
  rw[kF]
  split
  ·exact h.1
  ·exact Kn h.2 s
theorem CG {c:Nat}: ∀{B:aG},mS c B=true→ax B c=none∧ ∀d ch,ax B d=some ch→ch.has c=false
 | [],_=>⟨rfl,fun d ch h=>by cases h⟩
 |(t,v)::B,h=>by
  simp only[mS,Bool.and_eq_true,Bool.not_eq_true'] at h
  obtain⟨aa,af⟩:=CG h.2
  have bf:t≠c:=fun e=>by subst e;simp at h
  refine⟨by rw[cC,if_neg bf];exact aa,fun d ch hd=>?_⟩
  rw[cC] at hd
  split at hd
  ·injection hd with hd;subst hd;exact h.1.2
  ·exact af d ch hd
theorem kT {ids:List Nat} {K:aQ} {B:aG} {c:Nat} (h:gu ids K B c=true):(∀s,(look K s).has c=false)∧ax B c=none∧(∀d ch,ax B d=some ch→ch.has c=false)∧c∉ids:=by
 simp only[gu,Bool.and_eq_true,Bool.not_eq_true'] at h
 obtain⟨af,aA⟩:=CG h.1.2
 exact⟨Kn h.1.1,af,aA,by simpa using h.2⟩
section
variable {P:Program} {tt:c4} {N:Nat} {ids:List Nat} {o:Oper} {K:aQ} {B:aG} {C:Ctx} {ρ:Nat→bn} {F:Nat→Nat→Prop} {w w':World}
theorem Mem.make (h:Mem ids C B ρ F w) {c:Nat} {ch:bF} (hf:gu ids K B c=true) (ag:Below w.heap.size w w') (pl:bn) (G:Nat→Prop) (oo: ∀b,G b→w.heap.size≤b∧b < w'.heap.size)
  (eo: ∀I,Ext (bS C B F w) w I w'→(∀b,I b→b < w'.heap.size∧ ¬G b)→Holds (dx ρ c pl) I G w' pl ch):
  Mem ids C ((c,ch)::B) (dx ρ c pl) (dx F c G) w'∧Ext (bS C B F w) w (bS C ((c,ch)::B) (dx F c G) w') w':=by
 obtain⟨f1,f2,f3,f4⟩:=kT hf
 refine h.step (fun d=>d=c) (fun d=>d=c) (Fr.q2 ag) ?_ (fun d hd=>dL _ _ hd) (fun d hd=>dL _ _ hd) (fun d hd e=>f4 (e▸hd)) (fun _ h=>h) ?_ ?_ ?_ ?_
 ·intro d bg hd bf
  rw[cC,if_neg (fun e=>bf e.symm)] at hd
  exact hd
 ·rintro d bg hd _ e he rfl
  rw[f3 d bg hd] at he
  cases he
 ·rintro d bg hd rfl he
  rw[cC,if_pos rfl] at hd
  injection hd with hd
  subst hd
  rw[dN,dN]
  exact eo _ he fun b dm=>⟨dm.1,fun bl=>dm.2.2 d ch (by rw[cC,if_pos rfl]) (by rw[dN];exact bl)⟩
 ·rintro d bg hd rfl b bl
  rw[dN] at bl
  exact⟨(oo b bl).2,.inr (oo b bl).1⟩
 ·rintro d d' ko pO b _ _ rfl rfl bf
  exact absurd rfl bf
theorem Mem.jV (h:Mem ids C B ρ F w) {c:Nat} {cr ch:bF} (hc:ax B c=some cr) (cv:Fr (F c) w w')
  (eo: ∀I,Ext (bS C B F w) w I w'→Holds ρ I (F c) w' (ρ c) ch):
  Mem ids C ((c,ch)::B) ρ F w'∧Ext (bS C B F w) w (bS C ((c,ch)::B) F w') w':=by
 refine h.step (fun d=>d=c) (fun _=>False) (cv.mono fun b _ ag=>⟨c,cr,hc,rfl,ag⟩) ?_ (fun _ _=>rfl) (fun _ _=>rfl) (fun _ _ h=>h) (fun _ h=>h.elim) (fun _ _ _ _ _ _ h=>h) ?_ ?_ ?_
 ·intro d bg hd bf
  rw[cC,if_neg (fun e=>bf e.symm)] at hd
  exact hd
 ·rintro d bg hd rfl he
  rw[cC,if_pos rfl] at hd
  injection hd with hd
  subst hd
  exact eo _ he
 ·rintro d bg hd rfl b ag
  exact⟨Nat.lt_of_lt_of_le (h.own d cr hc b ag).1 cv.size,.inl ⟨d,cr,hc,rfl,ag⟩⟩
 ·rintro d d' ko pO b _ _ rfl rfl bf
  exact absurd rfl bf
theorem bI.make {c:Nat} {ch:bF} {v:aN} {rc:List Nat} (hv: ∀d,v.has d=true→d=c)
  (h: ∀(K':aQ) (B':aG),(∀x,x∈o.op.operands→aU K' x=aU K x)→(∀c,c∈rc→ax B' c=ax B c)→ ∀(C:Ctx) (ρ:Nat→bn) (F:Nat→Nat→Prop) (a:Act) (w:World),Mem ids C B' ρ F w→ei K' ρ (bS C B' F w) a w→
   (∀s,(look K' s).has c=false)→ ∃x w' pl G,(execOp a.eval o).run P w= .ok (.value x) w'∧Below w.heap.size w w'∧(∀b,G b→w.heap.size≤b∧b < w'.heap.size)∧
    (∀I,Ext (bS C B' F w) w I w'→(∀b,I b→b < w'.heap.size∧ ¬G b)→Holds (dx ρ c pl) I G w' pl ch∧cj (dx ρ c pl) I w' v x)):
  bI P N ids o K B v ⟨rc,[c],[(c,some ch)]⟩:=by
 rintro K' B' aa af aA C a w ⟨hn,hd,ρ,F,az,hS⟩ bH fl Q hK
 have hf:=aA c (by simp)
 have cv:=kT hf
 obtain⟨x,w',pl,G,hx,ag,oo,eo⟩:=h K' B' aa af C ρ F a w az hS cv.1
 obtain⟨bT,he⟩:=az.make hf ag pl G oo fun I ai aq=>(eo I ai aq).1
 unfold Oper.wp
 rw[hx,Oper.upon_value]
 refine hK _ _ ⟨lz.trans hn,put_defers.trans hd,dx ρ c pl,dx F c G,bT,(hS.mono he fun s d hd=>dL _ _ (fun e=>by subst e;rw[cv.1 s] at hd;cases hd)).lB (fun e he=>by rw[hn];exact bH e he) ?_⟩
 exact(eo _ he fun b dm=>⟨dm.1,fun bl=>dm.2.2 c ch (by rw[cC,if_pos rfl]) (by rw[dN];exact bl)⟩).2
theorem bI.jV {c:Nat} {cr ch:bF} (hc:ax B c=some cr)
  (h: ∀(K':aQ) (B':aG),(∀x,x∈o.op.operands→aU K' x=aU K x)→ ∀(C:Ctx) (ρ:Nat→bn) (F:Nat→Nat→Prop) (a:Act) (w:World),Mem ids C B' ρ F w→ei K' ρ (bS C B' F w) a w→ax B' c=some cr→ ∃w',(execOp a.eval o).run P w= .ok .skip w'∧Fr (F c) w w'∧
   (∀I,Ext (bS C B' F w) w I w'→Holds ρ I (F c) w' (ρ c) ch)):
  bI P N ids o K B .undef ⟨[c],[],[(c,some ch)]⟩:=by
 rintro K' B' aa af - C a w ⟨hn,hd,ρ,F,az,hS⟩ bH fl Q hK
 have dw:ax B' c=some cr:=(af c (by simp)).trans hc
 obtain⟨w',hx,cv,eo⟩:=h K' B' aa C ρ F a w az hS dw
 obtain⟨bT,he⟩:=az.jV dw cv eo
 unfold Oper.wp
 rw[hx,Oper.upon_skip]
 exact hK _ _ ⟨lz.trans hn,put_defers.trans hd,ρ,F,bT,(hS.mono he fun _ _ _=>rfl).lB (fun e he=>by rw[hn];exact bH e he) rfl⟩
theorem Ko {T:TypeId} {p:Addr} {v:Value} {d:TypeDesc} (hu:P.underlying T=some d) (hd:d.isRow=false) (hc:w.cell? p=some v):(loadVar T p).run P w= .ok v w:=by
 cases d <;>first |(simp[TypeDesc.isRow] at hd;done) |simp[loadVar,isAgg,run_underlying hu,go_sem,hc]
theorem FM {ev:Operand→Value} {T:TypeId} {x:Operand} {p:Addr} {v:Value} {d:TypeDesc} (av:o.op= .load T x) (aa:ev x= .pointer (some p)) (hu:P.underlying T=some d) (hd:d.isRow=false) (hc:w.cell? p=some v):(execOp ev o).run P w= .ok (.value v) w:=by
 unfold execOp
 simp only[av,aa,Instr.loadAt,Instr.sureAddr,Sem.run_bind,Sem.run_pure,Result.andThen_ok,Ko hu hd hc]
theorem FN {ev:Operand→Value} {T:TypeId} {x:Operand} {b p:Nat} {cs:List Value} {d:TypeDesc} {i:TypeInfo} (av:o.op= .load T x) (aa:ev x= .pointer (some ⟨b,p,none⟩)) (hu:P.underlying T=some d) (hd:d.isRow=true) (ay:P.info? T=some i) (aB:i.size=cs.length)
  (hc: ∀(j:Nat) (u:Value),cs[j]? =some u→w.cell? ⟨b,p+j,none⟩=some u):(execOp ev o).run P w= .ok (.value (.agg cs.toArray)) w:=by
 unfold execOp
 simp only[av,aa,Instr.loadAt,Instr.sureAddr,Sem.run_bind,Sem.run_pure,Result.andThen_ok,run_loadVar_mid w b p T cs d hc hu hd (by rw[ay,Option.map_some,aB])]
theorem cell_of {b:Nat} {vs:List Value} {T:Nat} (h:w.heap[b]? =some (.cells (List.toArray vs) T (0,0))) {j:Nat} {v:Value} (ak:vs[j]? =some v):w.cell? ⟨b,j,none⟩=some v:=by
 simp[World.cell?,h,ak]
theorem yu {ev:Operand→Value} {T:TypeId} {x y:Operand} {b p:Nat} {vs us:List Value} {U:Nat} {i:TypeInfo} (av:o.op= .store T x y) (aa:ev x= .pointer (some ⟨b,p,none⟩)) (aF:(ev y).cells=List.toArray us) (ay:P.info? T=some i) (aB:i.size=us.length)
  (ag:w.heap[b]? =some (.cells (List.toArray vs) U (0,0))) (nE:p+us.length≤vs.length) (q7: ∀u∈us,u.oneCell'=true):
  (execOp ev o).run P w= .ok .skip (w.setRow b (vs.take p++us++vs.drop (p+us.length)).toArray):=by
 have hs:=run_storeCells_at (P:=P) b p U us 0 (List.toArray vs) w ag (by simpa using nE) q7
 simp only[Nat.add_zero,List.toList_toArray] at hs
 have aS:(ev y).cells.size=i.size:=by rw[aF,aB];simp
 unfold execOp
 simp[av,aa,Instr.storeAt,Instr.sureAddr,storeVar,sizeOf,typeInfo,ay,aF,aB,hs]
end
end Go.Proofs.YteoamepgonpdlaaGreat
set_option linter.unusedVariables false
set_option linter.unusedSimpArgs false
namespace Go.Proofs.YteoamepgonpdlaaGreat
open Go.RowKit
section
variable {P:Program} {tt:c4} {N:Nat} {ids:List Nat} {o:Oper} {K:aQ} {B:aG} {k:aN→fk→Prop}
def cw (P:Program) (N:Nat) (ids:List Nat) (o:Oper) (K:aQ) (B:aG) (k:aN→fk→Prop):Prop:= ∃v e,k v e∧bI P N ids o K B v e∧ ∀c,c∈e.bu→gu ids K B c=true
theorem cw.of {v:aN} {rc:List Nat} {wc:List (Nat×Option bF)} (h:k v ⟨rc,[],wc⟩) (aT:bI P N ids o K B v ⟨rc,[],wc⟩):cw P N ids o K B k:=⟨_,_,h,aT,fun c hc=>by cases hc⟩
theorem cw.bu {v:aN} {rc:List Nat} {d:Nat} {wc:List (Nat×Option bF)} (h:k v ⟨rc,[d],wc⟩) (hf:gu ids K B d=true) (aT:bI P N ids o K B v ⟨rc,[d],wc⟩):cw P N ids o K B k:=⟨_,_,h,aT,fun c hc=>by simp at hc;rw[hc];exact hf⟩
theorem Kp {x:Operand} (av:o.op= .move x∨o.op= .assign x) (h:og (aU K x) fun v=>k v bt):cw P N ids o K B k:=by
 rw[tH] at h
 refine cw.of h <| bI.one rfl (by rcases av with av |av <;>rw[av] <;>simp[Op.operands]) fun K' ρ I a w hS e=>⟨_,?_,hS.ev e⟩
 rcases av with av |av <;>simp[execOp,av]
theorem QC {c x y:Operand} (av:o.op= .pick c x y) (h:match aU K c with
  | .c (.one (.d (.lit true)))=>og (aU K x) fun v=>k v bt
  | .c (.one (.d (.lit false)))=>og (aU K y) fun v=>k v bt
  |_=>False):cw P N ids o K B k:=by
 have bw:c∈o.op.operands:=by rw[av];simp[Op.operands]
 have bX:x∈o.op.operands:=by rw[av];simp[Op.operands]
 have fT:y∈o.op.operands:=by rw[av];simp[Op.operands]
 split at h
 ·rename_i hc
  rw[tH] at h
  exact cw.of h <| bI.two hc rfl bw bX fun K' ρ I a w hS ai aq=>⟨_,by simp[execOp,av,hS.lit ai,asBool],hS.ev aq⟩
 ·rename_i hc
  rw[tH] at h
  exact cw.of h <| bI.two hc rfl bw fT fun K' ρ I a w hS ai aq=>⟨_,by simp[execOp,av,hS.lit ai,asBool],hS.ev aq⟩
 ·exact h.elim
theorem QD {T:TypeId} {x:Operand} (av:o.op= .unOp .not T x) (h:match aU K x with
  | .c (.one (.d (.lit true)))=>k (.c (.one (.d (.lit false)))) bt
  | .c (.one (.d (.lit false)))=>k (.c (.one (.d (.lit true)))) bt
  | .c (.one (.d (.bool b)))=>k (.c (.one (.d (.bool (!b))))) bt
  |_=>False):cw P N ids o K B k:=by
 have bw:x∈o.op.operands:=by rw[av];simp[Op.operands]
 split at h
 ·rename_i hc;exact cw.of h <| bI.one hc bw fun K' ρ I a w hS ai=>⟨_,by simp[execOp,av,hS.lit ai,Op.unary],rfl⟩
 ·rename_i hc;exact cw.of h <| bI.one hc bw fun K' ρ I a w hS ai=>⟨_,by simp[execOp,av,hS.lit ai,Op.unary],rfl⟩
 ·rename_i b hc;exact cw.of h <| bI.one hc bw fun K' ρ I a w hS ai=>⟨_,by simp[execOp,av,hS.bool ai,Op.unary],rfl⟩
 ·exact h.elim
theorem iD.get {ρ:Nat→bn} {I:Nat→Prop} {w:World}: ∀(l:List dG) (vs:List Value),iD ρ I w l vs→ ∀(i:Nat) (s:dG),l[i]? =some s→ ∃v,vs[i]? =some v∧fS ρ I w s v
 | [],_,h,i,s,hs=>by simp at hs
 |t::l,_,⟨v,r,e,aa,af⟩,0,s,hs=>by
  simp only[List.getElem?_cons_zero,Option.some.injEq] at hs
  subst hs e
  exact⟨v,rfl,aa⟩
 |t::l,_,⟨v,r,e,aa,af⟩,i+1,s,hs=>by
  subst e
  simpa using iD.get l r af i s (by simpa using hs)
theorem QE {x:Operand} {i:Nat} (av:o.op= .extract x i) (h:match aU K x with
  | .c8 l=>match l[i]? with
   |some v=>k (.c v) bt
   |none=>False
  |_=>False):cw P N ids o K B k:=by
 have bw:x∈o.op.operands:=by rw[av];simp[Op.operands]
 split at h
 ·rename_i l aB
  split at h
  ·rename_i v hv
   refine cw.of h <| bI.one aB bw fun K' ρ I a w hS ai=>?_
   obtain⟨vs,e,af⟩:=hS.ev ai
   obtain⟨u,hu,aA⟩:=iD.get l vs af i v hv
   exact⟨u,by simp[execOp,av,e,Instr.extract,hu],aA⟩
  ·exact h.elim
 ·exact h.elim
theorem QF {x:Operand} (av:o.op= .nilCheck x) (h:match aU K x with
  | .c (.one (.ptr c o))=>k (.c (.one (.ptr c o))) bt
  | .c (.one (.el u y o))=>k (.c (.one (.el u y o))) bt
  | .c (.one (.fh c s i o))=>k (.c (.one (.fh c s i o))) bt
  |_=>False):cw P N ids o K B k:=by
 have bw:x∈o.op.operands:=by rw[av];simp[Op.operands]
 split at h
 ·rename_i c p hc;exact cw.of h <| bI.one hc bw fun K' ρ I a w hS ai=>⟨_,by simp[execOp,av,hS.ptr ai],rfl⟩
 ·rename_i u y p hc
  refine cw.of h <| bI.one hc bw fun K' ρ I a w hS ai=>⟨a.eval x,?_,hS.ev ai⟩
  obtain⟨b,q,e,_⟩:=hS.ev ai
  simp[execOp,av,e]
 ·rename_i c s i p hc;exact cw.of h <| bI.one hc bw fun K' ρ I a w hS ai=>⟨_,by simp[execOp,av,hS.fh ai],rfl⟩
 ·exact h.elim
theorem CH {ev:Operand→Value} {T:TypeId} {x:Operand} {f g off d:Nat} {w:World} {fs:Array Field} {fd:Field} {i:TypeInfo} (aa:ev x= .pointer (some ⟨g,off,none⟩)) (av:o.op= .fieldAddr T x f)
  (cu:P.underlying T=some (.struct fs)) (oJ:fs[f]? =some fd) (hd:fd.offset=d) (ay:P.info? fd.type=some i) (ek:i.size≠0):(execOp ev o).run P w= .ok (.value (.pointer (some ⟨g,off+d,none⟩))) w:=by
 subst hd
 simp[execOp,av,aa,Instr.fieldAt,run_underlying cu,oJ,Instr.sureAddr,fieldPlace,sizeOf,typeInfo,ay,ek,ql]
theorem QG (aX:dP P tt) {T:TypeId} {x:Operand} {f:Nat} (av:o.op= .fieldAddr T x f) (h:match Fm tt T f with
  |some (d,_)=>match aU K x with
   | .c (.one (.ptr c o))=>k (.c (.one (.ptr c (o+d)))) bt
   | .c (.one (.el u y o))=>k (.c (.one (.el u y (o+d)))) bt
   | .c (.one (.fh c s i o))=>k (.c (.one (.fh c s i (o+d)))) bt
   |_=>False
  |none=>False):cw P N ids o K B k:=by
 have bw:x∈o.op.operands:=by rw[av];simp[Op.operands]
 split at h
 ·rename_i d n hd
  have⟨fs,fd,i,cu,oJ,FO,ay,aS⟩: ∃fs fd i,P.underlying T=some (.struct fs)∧fs[f]? =some fd∧fd.offset=d∧P.info? fd.type=some i∧i.size≠0:=by
   unfold Fm at hd
   split at hd
   ·rename_i ti gK
    split at hd
    ·rename_i au
     obtain⟨i,dd,bD⟩:=aX.at_ gK
     obtain⟨fs,hu,rfl⟩:=bD.st au
     obtain⟨fd,Kq,aa,af,aA,bE,ec⟩:=Kf _ _ (bD.l5 fs rfl) f d n hd
     exact⟨fs,fd,Kq,hu,by simpa using aa,af,aA,by rw[bE];exact ec⟩
    ·cases hd
   ·cases hd
  split at h
  ·rename_i c p hc
   exact cw.of h <| bI.one hc bw fun K' ρ I a w hS ai=>⟨_,CH (hS.ptr ai) av cu oJ FO ay aS,rfl⟩
  ·rename_i u y p hc
   refine cw.of h <| bI.one hc bw fun K' ρ I a w hS ai=>?_
   obtain⟨b,q,e,af⟩:=hS.ev ai
   exact⟨_,CH e av cu oJ FO ay aS,b,q,by rw[Nat.add_assoc],af⟩
  ·rename_i c s j p hc
   exact cw.of h <| bI.one hc bw fun K' ρ I a w hS ai=>⟨_,CH (hS.fh ai) av cu oJ FO ay aS,by simp only[cj,fS,dI];rw[Nat.add_assoc]⟩
  ·exact h.elim
 ·exact h.elim
theorem CI {ρ:Nat→bn} {I:Nat→Prop} {w:World} {u:U} {y:aJ u} {c:Nat→Option Value} (aF:cg I w u y c): ∀(n p:Nat),p+n≤aM u→ ∃vs,bZ ρ I w (fE u y p n) vs∧ ∀(j:Nat) (v:Value),vs[j]? =some v→c (p+j)=some v
 |0,p,_=>⟨[],rfl,fun j v h=>by simp at h⟩
 |n+1,p,h=>by
  obtain⟨v,aa,af⟩:=cg.cell u y c p aF (by omega)
  obtain⟨vs,aA,bE⟩:=CI aF n (p+1) (by omega)
  refine⟨v::vs,⟨v,vs,rfl,af,aA⟩,fun j v' ak=>?_⟩
  match j with
  |0=>simp only[List.getElem?_cons_zero,Option.some.injEq] at ak;subst ak;exact aa
  |j+1=>rw[show p+(j+1)=p+1+j by omega];exact bE j v' (by simpa using ak)
theorem q8 (u:U) (y:aJ u): ∀(n p:Nat),(fE u y p n).length=n
 |0,_=>rfl
 |n+1,p=>by simp[fE,q8 u y n]
theorem yw (u:U) (y:aJ u): ∀(n p i:Nat),i < n→(fE u y p n)[i]? =some (.d (eW u y (p+i)))
 |0,p,i,h=>by omega
 |n+1,p,0,h=>rfl
 |n+1,p,i+1,h=>by
  have:=yw u y n (p+1) i (by omega)
  rw[show p+1+i=p+(i+1) by omega] at this
  simpa[fE] using this
theorem yx {ρ:Nat→bn} {I:Nat→Prop} {w:World} {u:U} {y:aJ u} (hw:nt u y) {vs:List Value} (h:bZ ρ I w (fE u y 0 (aM u)) vs):cg I w u y (fun j=>vs[j]?):=
 cg.mk u y _ hw fun j ak=>by
  have bl:=yw u y (aM u) 0 j ak
  rw[Nat.zero_add] at bl
  obtain⟨v,ai,aq⟩:=bZ.get _ _ h j _ bl
  exact⟨v,ai,aq⟩
theorem CJ {T:TypeId} {x:Operand} (av:o.op= .load T x) {ti:cD} {i:TypeInfo} {d:TypeDesc} (bD:lD P T ti i d) {u:U} {y:aJ u} {p:Nat} {a:Act} {w:World} {I:Nat→Prop} {ρ:Nat→bn} {b q:Nat}
  (he:a.eval x= .pointer (some ⟨b,q+p,none⟩)) (aF:cg I w u y (fun j=>w.cell? ⟨b,q+j,none⟩)):
  (ti.row=true→p+ti.size≤aM u→ ∃r,(execOp a.eval o).run P w= .ok (.value r) w∧cj ρ I w (.c (.agg (fE u y p ti.size))) r)∧
  (ti.row=false→p < aM u→ ∃r,(execOp a.eval o).run P w= .ok (.value r) w∧cj ρ I w (.c (.one (.d (eW u y p)))) r):=by
 constructor
 ·intro hr hle
  obtain⟨vs,aa,af⟩:=CI (ρ:=ρ) aF ti.size p hle
  refine⟨_,FN (cs:=vs) av he bD.und (bD.row.trans hr) bD.info (by rw[bZ.length _ _ aa,q8];exact bD.size) (fun j v ak=>?_),vs,rfl,aa⟩
  rw[Nat.add_assoc]
  exact af j v ak
 ·intro hr bH
  obtain⟨v,aa,af⟩:=cg.cell u y _ p aF bH
  exact⟨v,FM av he bD.und (bD.row.trans hr) aa,af⟩
theorem QH {ρ:Nat→bn} {I F:Nat→Prop} {w:World} {p:bn} {e:TypeId} {u:U} {xs:List (aJ u)} (h:Holds ρ I F w p (.row e u xs)) {i:Nat} {y:aJ u} (aF:ff xs i=some y):
  cg I w u y (fun j=>w.cell? ⟨p.bO,i*aM u+j,none⟩):=by
 obtain⟨aa,af,cs,aA,bE⟩:=h
 refine cg.mono (Ext.refl _ _) u y _ _ (fun j v ak=>?_) (bE i y aF)
 have ak:cs[i*aM u+j]? =some v:=ak
 have hx:=z8 aF
 have Ak:=aA
 obtain⟨aB,aA⟩:=aA
 rcases aA with⟨_,aC⟩ |⟨g,cap,cur,hv,_,bl,_,_,_,cl⟩
 ·omega
 ·have ag:p.hdr.ownBlock=some g:=by rw[hv];rfl
  rw[←af g ag]
  have:=Ak.cells ag (i*aM u+j) v ak
  rwa[ql,Nat.zero_add] at this
theorem QI (aX:dP P tt) {T:TypeId} {x:Operand} (av:o.op= .load T x) (h:match tt.find T with
  |some ti=>match aU K x with
   | .c (.one (.ptr c o))=>match ax B c with
    |some (.cells l)=>match ti.row with
     |true=>match Nat.ble (o+ti.size) l.length with
      |true=>oH ((l.drop o).take ti.size) fun l=>k (.c (.agg l)) ⟨[c],[],[]⟩
      |false=>False
     |false=>match l[o]? with
      |some s=>yc s fun s=>k (.c (.one s)) ⟨[c],[],[]⟩
      |none=>False
    |_=>False
   | .c (.one (.el u y o))=>match ti.row with
    |true=>match Nat.ble (o+ti.size) (aM u) with
     |true=>oH (fE u y o ti.size) fun l=>k (.c (.agg l)) bt
     |false=>False
    |false=>match Nat.blt o (aM u) with
     |true=>yb (eW u y o) fun x=>k (.c (.one (.d x))) bt
     |false=>False
   | .c (.one (.fh c s i o))=>match ax B c with
    |some (.row _ u xs)=>match Nat.beq s (aM u) with
     |true=> ∃y,ff xs i=some y∧match ti.row with
      |true=>match Nat.ble (o+ti.size) (aM u) with
       |true=>oH (fE u y o ti.size) fun l=>k (.c (.agg l)) ⟨[c],[],[]⟩
       |false=>False
      |false=>match Nat.blt o (aM u) with
       |true=>yb (eW u y o) fun x=>k (.c (.one (.d x))) ⟨[c],[],[]⟩
       |false=>False
     |false=>False
    |_=>False
   |_=>False
  |none=>False):cw P N ids o K B k:=by
 have bw:x∈o.op.operands:=by rw[av];simp[Op.operands]
 split at h
 ·rename_i ti gK
  obtain⟨i,d,bD⟩:=aX.at_ gK
  split at h
  ·rename_i c p hc
   split at h
   ·rename_i l aB
    have key: ∀(K':aQ) (B':aG),(∀x,x∈o.op.operands→aU K' x=aU K x)→(∀d,d∈ [c]→ax B' d=ax B d)→ ∀(C:Ctx) (ρ:Nat→bn) (F:Nat→Nat→Prop) (a:Act) (w:World),Mem ids C B' ρ F w→ei K' ρ (bS C B' F w) a w→
      a.eval x= .pointer (some ⟨(ρ c).bO,p,none⟩)∧ ∃vs T,w.heap[(ρ c).bO]? =some (.cells (List.toArray vs) T (0,0))∧bZ ρ (bS C B' F w) w l vs:=fun K' B' aa af C ρ F a w az hS=>by
     have bM:=az.holds c _ ((af c (by simp)).trans aB)
     exact⟨hS.ptr ((aa x bw).trans hc),bM.2⟩
    split at h
    ·rename_i hr
     split at h
     ·rename_i hle
      have hle:=Nat.le_of_ble_eq_true hle
      rw[yd] at h
      refine cw.of h <| bI.val fun K' B' aa af C ρ F a w az hS=>?_
      obtain⟨ai,vs,eG,ag,hd⟩:=key K' B' aa af C ρ F a w az hS
      have jk:=bZ.yt ti.size _ _ (bZ.l7 p _ _ hd)
      refine⟨_,FN (cs:=(vs.drop p).take ti.size) av ai bD.und (bD.row.trans hr) bD.info ?_ (fun j u ak=>?_),_,rfl,jk⟩
      ·rw[bZ.length _ _ jk,List.length_take,List.length_drop,bD.size]
       omega
      ·rw[List.getElem?_take] at ak
       split at ak
       ·rw[List.getElem?_drop] at ak
        exact cell_of ag ak
       ·cases ak
     ·exact h.elim
    ·rename_i hr
     split at h
     ·rename_i s hs
      rw[E5] at h
      refine cw.of h <| bI.val fun K' B' aa af C ρ F a w az hS=>?_
      obtain⟨ai,vs,eG,ag,hd⟩:=key K' B' aa af C ρ F a w az hS
      obtain⟨v,hv,jk⟩:=bZ.get _ _ hd p s hs
      exact⟨v,FM av ai bD.und (bD.row.trans hr) (cell_of ag hv),jk⟩
     ·exact h.elim
   ·exact h.elim
  ·rename_i u y p hc
   split at h
   ·rename_i hr
    split at h
    ·rename_i hle
     rw[yd] at h
     refine cw.of h <| bI.one hc bw fun K' ρ I a w hS ai=>?_
     obtain⟨b,q,e,_,aF⟩:=hS.ev ai
     exact(CJ av bD e aF).1 hr (Nat.le_of_ble_eq_true hle)
    ·exact h.elim
   ·rename_i hr
    split at h
    ·rename_i bH
     rw[E4] at h
     refine cw.of h <| bI.one hc bw fun K' ρ I a w hS ai=>?_
     obtain⟨b,q,e,_,aF⟩:=hS.ev ai
     exact(CJ av bD e aF).2 hr (by simpa[Nat.blt_eq] using bH)
    ·exact h.elim
  ·rename_i c s j p hc
   split at h
   ·rename_i e u xs aB
    split at h
    ·rename_i hs
     have hs:=Nat.eq_of_beq_eq_true hs
     subst hs
     obtain⟨y,aF,h⟩:=h
     have key: ∀(K':aQ) (B':aG),(∀x,x∈o.op.operands→aU K' x=aU K x)→(∀d,d∈ [c]→ax B' d=ax B d)→ ∀(C:Ctx) (ρ:Nat→bn) (F:Nat→Nat→Prop) (a:Act) (w:World),Mem ids C B' ρ F w→ei K' ρ (bS C B' F w) a w→
       a.eval x= .pointer (some ⟨(ρ c).bO,j*aM u+p,none⟩)∧cg (bS C B' F w) w u y (fun i=>w.cell? ⟨(ρ c).bO,j*aM u+i,none⟩):=fun K' B' aa af C ρ F a w az hS=>
      ⟨hS.fh ((aa x bw).trans hc),QH (az.holds c _ ((af c (by simp)).trans aB)) aF⟩
     split at h
     ·rename_i hr
      split at h
      ·rename_i hle
       rw[yd] at h
       refine cw.of h <| bI.val fun K' B' aa af C ρ F a w az hS=>?_
       obtain⟨ai,aq⟩:=key K' B' aa af C ρ F a w az hS
       exact(CJ av bD ai aq).1 hr (Nat.le_of_ble_eq_true hle)
      ·exact h.elim
     ·rename_i hr
      split at h
      ·rename_i bH
       rw[E4] at h
       refine cw.of h <| bI.val fun K' B' aa af C ρ F a w az hS=>?_
       obtain⟨ai,aq⟩:=key K' B' aa af C ρ F a w az hS
       exact(CJ av bD ai aq).2 hr (by simpa[Nat.blt_eq] using bH)
      ·exact h.elim
    ·exact h.elim
   ·exact h.elim
  ·exact h.elim
 ·exact h.elim
end
end Go.Proofs.YteoamepgonpdlaaGreat
