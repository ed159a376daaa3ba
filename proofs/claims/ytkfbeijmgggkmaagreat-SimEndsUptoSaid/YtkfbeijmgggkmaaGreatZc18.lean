/-
A part of the proof of this claim: lemmas, with no condition beyond what each says.
-/
import Derived.Test.YtkfbeijmgggkmaaGreatZc17
set_option linter.unusedVariables false
set_option linter.unusedSimpArgs false
set_option maxRecDepth 10000
set_option maxHeartbeats 4000000
namespace Go.Proofs.YtkfbeijmgggkmaaGreat
open Go.RowKit Go.Proofs Tryz
section
theorem VU {k:Nat} (h:k < 8):0<=1*((2 ^k:Nat):Int)/\1*((2 ^k:Nat):Int) < 256:=by
 have ae:2 ^k<=2 ^7:=Nat.pow_le_pow_right aw1 aw0;generalize 2 ^k=y at*;omega
section
variable {P:Program} {ids:aA1} {K:aX} {B:ay}
theorem alv {o:Oper} {T fQ:TypeId} {x y:Operand} {m:Int} (ag:o.op= .binOp .shl T x y fQ) (hx:a7 K x= .c (.one (.d (.int .u8 1)))) (aD:a7 K y= .c (.one (.d (.int .i64 m)))) (av:0<=m) (E:m < 8) (N:Nat):
  bB P N ids o K B (.c (.one (.d (.int .u8 (1*((2 ^m.toNat:Nat):Int)))))) ⟨[],[],[]⟩:=by
 have m1:x∈o.op.operands:=aw7
 have m2:y∈o.op.operands:=aw7
 refine bB.val fun K' B' g1 g2 C ρ F fl w ar au=>?_
 have af:=au.int ((g1 x m1).trans hx);have ao:=au.int ((g1 y m2).trans aD);exact⟨_,JI ag af ao aw1 av (by simp[IntKind.bits];omega) (.inl ⟨rfl,rfl⟩) (fun _=>VU aw0),rfl⟩
theorem alw {a b:Int} (E:0<=a) (G:a < 256) (al:0<=b) (aW:b < 256):
  IntKind.u8.wrap (((BitVec.ofInt 8 a ||| BitVec.ofInt 8 b).toNat:Nat):Int)=((a.toNat ||| b.toNat:Nat):Int):=by
 have af:(BitVec.ofInt 8 a).toNat=a.toNat:=az2
 have ao:(BitVec.ofInt 8 b).toNat=b.toNat:=az2
 rw[BitVec.toNat_or,af,ao];have h:a.toNat ||| b.toNat < 2 ^8:=Nat.or_lt_two_pow aw0 aw0;exact xA (by simp only[uu];omega)
theorem alx {o:Oper} {T fQ:TypeId} {x y:Operand} {a b:Int} (ag:o.op= .binOp .or T x y fQ) (hx:a7 K x= .c (.one (.d (.int .u8 a)))) (aD:a7 K y= .c (.one (.d (.int .u8 b)))) (E:0<=a) (G:a < 256) (al:0<=b) (aW:b < 256) (N:Nat):
  bB P N ids o K B (.c (.one (.d (.int .u8 ((a.toNat ||| b.toNat:Nat):Int))))) ⟨[],[],[]⟩:=by
 have m1:x∈o.op.operands:=aw7
 have m2:y∈o.op.operands:=aw7
 refine bB.val fun K' B' g1 g2 C ρ F fl w ar au=>?_
 have af:=au.int ((g1 x m1).trans hx);have ao:=au.int ((g1 y m2).trans aD);refine⟨_,?_,rfl⟩;have e:=alw E G al aW
 have ax:Op.intBits .or .u8 a b=pure (.int .u8 ((a.toNat ||| b.toNat:Nat):Int)):=by
  exact congrArg (fun aB:Int=>(pure (Value.int .u8 aB):Sem Value)) e
 simp only[execOp,ag,af,ao,eqGuard,binOp,ax];simp[go_sem]
end
def iU (es:List (aa ai×aa ai)) (aB:Int):Bool:=DC ((bY (aH:=ai) (aJ:=ai) es aB).getD (cL ai))
def iv (es:List (aa ai×aa ai)) (aB:Int):Nat->Nat
 |0=>0
 |k+1=>if iU es (aB+(k:Int))=true then iv es aB k ||| 2 ^k else iv es aB k
theorem VV (es:List (aa ai×aa ai)) (aB:Int): ∀k,iv es aB k < 2 ^k
 |0=>Nat.one_pos
 |k+1=>by
  have h:=VV es aB k;have G:(2:Nat) ^k < 2 ^(k+1):=Nat.pow_lt_pow_right aw1 aw0;unfold iv
  split
  .exact Nat.or_lt_two_pow aw0 G
  .omega
theorem VW (es:List (aa ai×aa ai)) (aB:Int) {k:Nat} (h:k<=8):iv es aB k < 256:=by
 have E:=VV es aB k;have G:(2:Nat) ^k<=2 ^8:=Nat.pow_le_pow_right aw1 h;omega
def pw (es:List (aa ai×aa ai)):Nat->aA0
 |0=>[]
 |n+1=>pw es n++[UInt8.ofNat (iv es (8*(n:Int)) 8)]
theorem NI (es:List (aa ai×aa ai)): ∀n,(pw es n).length=n
 |0=>rfl
 |n+1=>by unfold pw;rw[aq5,NI es n];rfl
def fE (s g:Int):Nat:=((mB s g+7)/8).toNat
theorem H2 {s g:Int} (ax:0<=s/\s<=4096) (aY:1<=g/\g<=64):mB s g<=8*(fE s g:Int)/\(8*(fE s g:Int) < mB s g+8)/\fE s g<=521:=by
 have h:=yE ax aY;unfold fE;omega
def ta (s g:Int):aA0:=eP 2 [s.toNat]++eP 1 [g.toNat]
theorem VX (s g:Int):(ta s g).length=3:=by
 unfold ta;rw[aq5,nK,nK];rfl
def encZ (s g:Int) (es:List (aa ai×aa ai)):aA0:=ta s g++pw es (fE s g)
theorem H3 {s g:Int} (ax:0<=s/\s<=4096) (aY:1<=g/\g<=64) (es:List (aa ai×aa ai)):(encZ s g es).length<=524:=by
 have h:=H2 ax aY;unfold encZ;rw[aq5,VX,NI];omega
abbrev NJ (r:Nat) (j:Nat):aX:=[(0,ah 1001),(3,eX r),(5,ac (8*(j:Int)))]
abbrev aly (r:Nat) (j:Nat) (n k:Nat):aX:=[(0,ah 1001),(3,eX r),(5,ac (8*(j:Int))),(6,.c (.one (.d (.int .u8 (n:Int))))),(33,ac (k:Int))]
abbrev H4 (s g:Int) (es:List (aa ai×aa ai)) (r:Nat) (x:aA0):ay:=iC s g es++[(r,.row 5 .u8 x)]
theorem alz (s g:Int) (es:List (aa ai×aa ai)) (ax:0<=s/\s<=4096) (aY:1<=g/\g<=64):Fn Tryz.prog 56 [ah 1001] (iC s g es) [] (bv .u8 (encZ s g es)) (iC s g es):=by
 have rY:=Hx s g es ax aY;have kW:=yE ax aY;have e5:=H2 ax aY;have c0:=VX s g;have i4:=nK 2 [s.toNat];have d6:=HY 2 [s.toNat] (.inr (.inl rfl)) (fun n hn=>by simp only[ar5] at hn;omega) aw2;have cV:=yL (eP 2 [s.toNat]) 1 [g.toNat] (.inl rfl) (fun n hn=>by simp only[ar5] at hn;omega) aw2 (by rw[i4];simp);refine aT [] Tryz.func56 ?_;refine ak (Fn.arg (Fn.aV [(1002,2002)] d6) ⟨rfl,rfl,DX ax.1,trivial⟩) <| ak (Fn.arg (Fn.aV [(1001,2002),(1002,2003)] cV) ⟨rfl,rfl,DX aw0,trivial⟩) <| dG [] (X:=Nat) (fun j=>NJ 2001 j) (fun j=>H4 s g es 2001 (ta s g++pw es j)) (fun j=>j<=fE s g) (fun j=>fE s g - j) 0 (aq9 _) ?_ ?_
 .exact ab.trans (ab.sub (K':=NJ 2003 0) (B':=H4 s g es 2003 (ta s g++pw es 0)) az ⟨rfl,rfl,congrArg (fun l=>some (ba.row _ .u8 l)) (au0 _).symm,trivial⟩) (ab.aV 2003 2001 rfl)
 intro j V;have V:j<=fE s g:=V;have wh:=NI es j;refine ak rY ⟨fun J=>?_,fun J=>?_⟩
 .have J:decide (8*(j:Int) < mB s g)=true:=J;have J:=gd J;refine dG [11] (X:=Nat) (fun k=>aly 2001 j (iv es (8*(j:Int)) k) k) (fun _=>H4 s g es 2001 (ta s g++pw es j)) (fun k=>k<=8) (fun k=>8 - k) 0 (aq9 _) ?_ ?_
  .exact ab.sub az az
  intro k Z;have Z:k<=8:=Z;have O:=VW es (8*(j:Int)) Z;refine⟨fun ei=>?_,fun ei=>?_⟩
  .have ei:decide ((k:Int) < 8)=true:=ei;have ei:=gd ei;have cM:c3 (8*(j:Int)+(k:Int)):=aw8
   have ae:=VU (k:=(k:Int).toNat) aw0;have au:iv es (8*(j:Int)) (k+1)=if iU es (8*(j:Int)+(k:Int))=true then iv es (8*(j:Int)) k ||| 2 ^k else iv es (8*(j:Int)) k:=rfl
   refine⟨cM,fun H=>?_,fun H=>?_⟩
   .have H:iU es (8*(j:Int)+(k:Int))=true:=H;rw[if_pos H] at au;refine bk.m4 (2000000+47) aw1 ?_;refine bk.m4 (2000000+48) aw1 ?_;refine br [] (bq) ⟨_,_,fun N=>alv rfl rfl rfl aw0 aw0 N,rfl,?_⟩;refine⟨_,_,fun N=>alx rfl rfl rfl aw0 aw0 ae.1 ae.2 N,rfl,?_⟩;refine⟨aw0,k+1,aw0,aw0,ab.sub ⟨rfl,rfl,rfl,?_,rfl,trivial⟩ az⟩;rw[au];show((((iv es (8*(j:Int)) k:Nat):Int).toNat ||| (1*((2 ^(k:Int).toNat:Nat):Int)).toNat:Nat):Int)=_;rw[Int.toNat_natCast,Int.one_mul,Int.toNat_natCast,Int.toNat_natCast]
   .have H:iU es (8*(j:Int)+(k:Int))=false:=H;rw[if_neg (by rw[H];decide)] at au;exact⟨aw0,k+1,aw0,aw0,ab.sub ⟨rfl,rfl,rfl,(show((iv es (8*(j:Int)) k:Nat):Int)=((iv es (8*(j:Int)) (k+1):Nat):Int) by rw[au]),rfl,trivial⟩ az⟩
  .have ei:decide ((k:Int) < 8)=false:=ei;have ei:=mu ei;have m8:k=8:=aw8
   subst m8;refine⟨⟨aw0,aw0⟩,?_,rfl,?_⟩
   .show(ta s g++pw es j).length+1<=4294967296;rw[aq5];omega
   refine⟨aw0,j+1,aw0,aw0,ab.trans (ab.sub (K':=NJ 53 (j+1)) (B':=H4 s g es 53 (ta s g++pw es (j+1))) ⟨rfl,rfl,(show 8*(j:Int)+8=8*((j+1:Nat):Int) by omega),trivial⟩ ⟨rfl,rfl,congrArg (fun l=>some (ba.row _ .u8 l)) ?_,trivial⟩) (ab.aV 53 2001 rfl)⟩;show(ta s g++pw es j)++[UInt8.ofNat ((iv es (8*(j:Int)) 8:Nat):Int).toNat]=ta s g++(pw es j++[UInt8.ofNat (iv es (8*(j:Int)) 8)]);rw[Int.toNat_natCast,au2]
 .have J:decide (8*(j:Int) < mB s g)=false:=J;have J:=mu J;have fB:j=fE s g:=aw8
  subst fB;exact⟨_,_,_,ab.d3 2001 rfl,rfl,rfl,az,rfl⟩
def nd (es:List (aa ai×aa ai)) (j:Nat):Nat->aA0
 |0=>[]
 |n+1=>UInt8.ofNat (iv es (8*(j:Int)) 8)::nd es (j+1) n
theorem VY (es:List (aa ai×aa ai)): ∀(n j:Nat),nd es j n++[UInt8.ofNat (iv es (8*((j+n:Nat):Int)) 8)]=nd es j (n+1)
 |0,j=>rfl
 |n+1,j=>by
  have h:=VY es n (j+1);rw[show j+1+n=j+(n+1) by omega] at h;show UInt8.ofNat (iv es (8*(j:Int)) 8)::(nd es (j+1) n++[UInt8.ofNat (iv es (8*((j+(n+1):Nat):Int)) 8)])=_;rw[h];rfl
theorem VZ (es:List (aa ai×aa ai)): ∀n,pw es n=nd es 0 n
 |0=>rfl
 |n+1=>by
  have h:=VY es n 0;rw[Nat.zero_add] at h;rw[<-h,<-VZ es n];rfl
theorem V0 (es:List (aa ai×aa ai)) (aB:Int): ∀(m i:Nat),(iv es aB m).testBit i=(decide (i < m)&&iU es (aB+(i:Int)))
 |0,i=>by simp[iv]
 |m+1,i=>by
  unfold iv;have h:=V0 es aB m i
  by_cases e:i=m
  .subst e
   split
   .rename_i ae;rw[Nat.testBit_or,h,Nat.testBit_two_pow_self,ae];simp
   .rename_i ae;rw[h];simp at ae;simp[ae]
  .have ao:decide (i < m+1)=decide (i < m):=by
    by_cases q:i < m
    .rw[ar6 q,ar6 aw0]
    .rw[at3 q,at3 aw0]
   rw[ao]
   split
   .rw[Nat.testBit_or,h,Nat.testBit_two_pow_of_ne aw0];simp
   .exact h
theorem alA (es:List (aa ai×aa ai)) (aB:Int) {k:Nat} (h:k < 8):(iv es aB 8/2 ^k) &&& 1=if iU es (aB+(k:Int))=true then 1 else 0:=by
 have E:=V0 es aB 8 k;rw[ar6 h,Bool.true_and] at E;rw[<-E,<-Nat.shiftRight_eq_div_pow,Nat.testBit,Nat.and_comm];have G:1 &&& (iv es aB 8 >>> k)<=1:=Nat.and_le_left;generalize 1 &&& (iv es aB 8 >>> k)=y at*;have:y=0\/y=1:=aw8
 rcases this with rfl |rfl <;>rfl
def hu (es:List (aa ai×aa ai)):Nat->List (aa ai×aa ai)
 |0=>[]
 |n+1=>if iU es (n:Int)=true then dw (aH:=ai) (aJ:=ai) (hu es n) (n:Int) (1:Int) else hu es n
def kl (s g:Int) (es:List (aa ai×aa ai)):Prop:= ∀aB,iU es aB=true->0<=aB/\aB < mB s g
abbrev alB (j:Nat):aX:=[(4,ah 3001),(5,ah 4001),(7,ac (8*(j:Int)))]
abbrev alC (j:Nat) (n k:Nat):aX:=[(4,ah 3001),(5,ah 4001),(7,ac (8*(j:Int))),(8,ac (n:Int)),(35,ac (k:Int))]
abbrev V1 (s g:Int) (es:List (aa ai×aa ai)) (x:aA0):ay:=[(3001,.cells [.d (.cf .u8 x),.d (.int .i64 0)]),(4001,.cells [.d (.int .i64 s),.d (.int .i64 g),.mp 4002]),(4002,.map ai ai es)]
theorem alD (n:Nat):eq n 1=[UInt8.ofNat n]:=by
 show[UInt8.ofNat (n/256 ^0 % 256)]=_;rw[Nat.pow_zero,Nat.div_one]
 congr 1
 exact UInt8.ofNat_mod_size (x:=n)
theorem alE (s g:Int) (es:List (aa ai×aa ai)) (ag:ow s g=true) (a2:kl s g es):Fn Tryz.prog 133 [bv .u8 (encZ s g es)] [] [2001,2002] (.cb [.one (.ptr 2001 0),dp 0])
  [(2001,.cells [.d (.int .i64 s),.d (.int .i64 g),.mp 2002]),(2002,.map ai ai (hu es (8*fE s g)))]:=by
 obtain⟨ax,alF,s3⟩:=Hk ag;have aY:1<=g/\g<=64:=⟨alF,s3⟩;have kW:=yE ax aY;have e5:=H2 ax aY;have cH:=H3 ax aY es;have gM:=HZ (encZ s g es) aw0;have kL:=ps (encZ s g es,0) 2 (.inr (.inl rfl))
 have aZ:encZ s g es=eq s.toNat 2++(eq g.toNat 1++nd es 0 (fE s g)):=by
  unfold encZ ta eP;rw[VZ];simp
 rw[aZ,pt aw0] at kL;have cM:=ps (eq g.toNat 1++nd es 0 (fE s g),0) 1 (.inl rfl);rw[pt aw0] at cM;have kL:Fn Tryz.prog 131 [ah 1001,ac 2] (k6 (encZ s g es,0)) [] (ac ((s.toNat:Nat):Int)) (k6 (eq g.toNat 1++nd es 0 (fE s g),0)):=by rw[aZ];exact kL
 have cM:Fn Tryz.prog 131 [ah 1001,ac 1] (k6 (eq g.toNat 1++nd es 0 (fE s g),0)) [] (ac ((g.toNat:Nat):Int)) (k6 (nd es 0 (fE s g),0)):=cM;have NK:((s.toNat:Nat):Int)=s:=aw8
 have alG:((g.toNat:Nat):Int)=g:=aw8
 rw[NK] at kL;rw[alG] at cM;have U:Fn Tryz.prog 138 [ah 1001] (k6 (nd es 0 (fE s g),0)) [] (ac 0) (k6 (nd es 0 (fE s g),0)):=VK (nd es 0 (fE s g),0);have mi:=MH s g ag;have l4:Fn Tryz.prog 134 [ah 1001] (k6 ([],0)) [] (ac 0) (k6 ([],0)):=ND ([],0);generalize encZ s g es=X at*;refine aT [] Tryz.func133 ?_;refine ak (Fn.aV [(1001,3001)] gM) <| ak (Fn.aV [(1001,3001)] kL) <| ak (Fn.aV [(1001,3001)] cM) <| ak (Fn.aV [(2001,4001),(2002,4002)] mi) <| cX <| ak (Fn.aV [(1001,3001)] U) <| cX <| dG [] (X:=Nat) (fun j=>alB j) (fun j=>V1 s g (hu es (8*j)) (nd es j (fE s g - j))) (fun j=>j<=fE s g) (fun j=>fE s g - j) 0 (aq9 _) ?_ ?_
 .exact ab.sub az az
 intro j V;have V:j<=fE s g:=V;refine ak (Fn.aV [(1001,4001),(1002,4002)] (Hx s g (hu es (8*j)) ax aY)) ⟨fun J=>?_,fun J=>?_⟩
 .have J:decide (8*(j:Int) < mB s g)=true:=J;have J:=gd J;have O:=VW es (8*(j:Int)) (aq4 8);have dK:=ps (eq (iv es (8*(j:Int)) 8) 1++nd es (j+1) (fE s g - (j+1)),0) 1 (.inl rfl);rw[pt aw0] at dK
  have bm:nd es j (fE s g - j)=eq (iv es (8*(j:Int)) 8) 1++nd es (j+1) (fE s g - (j+1)):=by
   rw[show fE s g - j=(fE s g - (j+1))+1 by omega,alD];rfl
  rw[<-bm] at dK;refine ak (Fn.aV [(1001,3001)] dK) <| dG [] (X:=Nat) (fun k=>alC j (iv es (8*(j:Int)) 8) k) (fun k=>V1 s g (hu es (8*j+k)) (nd es (j+1) (fE s g - (j+1)))) (fun k=>k<=8) (fun k=>8 - k) 0 (aq9 _) ?_ ?_
  .exact ab.sub az az
  intro k Z;have Z:k<=8:=Z;refine⟨fun ei=>?_,fun ei=>?_⟩
  .have ei:decide ((k:Int) < 8)=true:=ei;have ei:=gd ei;have alH:=alA es (8*(j:Int)) (k:=k) aw0
   have cp:hu es (8*j+(k+1))=if iU es (8*(j:Int)+(k:Int))=true then dw (aH:=ai) (aJ:=ai) (hu es (8*j+k)) (8*(j:Int)+(k:Int)) (1:Int) else hu es (8*j+k):=by
    show(if iU es ((8*j+k:Nat):Int)=true then dw (aH:=ai) (aJ:=ai) (hu es (8*j+k)) ((8*j+k:Nat):Int) (1:Int) else hu es (8*j+k))=_;rw[show((8*j+k:Nat):Int)=8*(j:Int)+(k:Int) by omega]
   have alI:=a2 (8*(j:Int)+(k:Int));generalize iv es (8*(j:Int)) 8=n at*;have ke:n/2 ^k<=n:=Nat.div_le_self _ _
   have aD:0<=((n/2 ^k:Nat):Int)/\((n/2 ^k:Nat):Int)<=9223372036854775807:=by
    generalize n/2 ^k=y at*;omega
   have aP:((n:Int)/((2 ^(k:Int).toNat:Nat):Int))=((n/2 ^k:Nat):Int):=by rw[Int.toNat_natCast];exact(Int.natCast_ediv _ _).symm
   have lr:c3 (8*(j:Int)+(k:Int)):=aw8
   refine⟨⟨aw0,aw0,aw0⟩,?_⟩;refine⟨_,_,fun N=>GS rfl rfl rfl (by rw[aP];exact aD.1) (by rw[aP];exact aD.2) aw0 aw0 N,rfl,?_⟩
   have lk:((((n:Int)/((2 ^(k:Int).toNat:Nat):Int)).toNat &&& (1:Int).toNat:Nat):Int)=if iU es (8*(j:Int)+(k:Int))=true then 1 else 0:=by
    rw[aP,Int.toNat_natCast];show(((n/2 ^k) &&& 1:Nat):Int)=_;rw[alH]
    split <;>rfl
   refine⟨fun H=>?_,fun H=>?_⟩
   .have H:=gd H
    have ae:iU es (8*(j:Int)+(k:Int))=false:=by
     cases ae:iU es (8*(j:Int)+(k:Int))
     .rfl
     .rw[ae,if_pos rfl] at lk;have H:((((n:Int)/((2 ^(k:Int).toNat:Nat):Int)).toNat &&& (1:Int).toNat:Nat):Int)=0:=H;omega
    rw[ae,if_neg aw1] at cp;exact⟨aw0,k+1,aw0,aw0,ab.sub az ⟨rfl,rfl,congrArg (fun l=>some (ba.map ai ai l)) cp.symm,trivial⟩⟩
   .have H:=mu H
    have ae:iU es (8*(j:Int)+(k:Int))=true:=by
     cases ae:iU es (8*(j:Int)+(k:Int))
     .rw[ae,if_neg aw1] at lk;exact absurd lk H
     .rfl
    rw[ae,if_pos rfl] at cp;have aR:=alI ae;exact⟨lr,ak (Fn.aV [(1001,4001),(1002,4002)] (Hx s g (hu es (8*j+k)) ax aY)) ⟨fun h=>absurd (gd h) aw0,fun _=>⟨lr,trivial,aw0,k+1,aw0,aw0,ab.sub az ⟨rfl,rfl,congrArg (fun l=>some (ba.map ai ai l)) cp.symm,trivial⟩⟩⟩⟩
  .have ei:decide ((k:Int) < 8)=false:=ei;have ei:=mu ei;have m8:k=8:=aw8
   subst m8;refine⟨aw0,j+1,aw0,aw0,ab.sub ⟨rfl,rfl,(show 8*(j:Int)+8=8*((j+1:Nat):Int) by omega),trivial⟩ az⟩
 .have J:decide (8*(j:Int) < mB s g)=false:=J;have J:=mu J;have fB:j=fE s g:=aw8
  subst fB;rw[Nat.sub_self];exact ak (Fn.aV [(1001,3001)] l4) <| cX ⟨_,_,_,ab.trans (ab.aV 4001 2001 rfl) (ab.aV 4002 2002 rfl),rfl,az,az,rfl⟩
end
section
def iG (b:Bool):Nat:=if b=true then 1 else 0
theorem H5 (b:Bool):iG b < 256 ^1:=by cases b <;>decide
theorem NL (b:Bool):Fn Tryz.prog 55 [fk b] [] [] (ac ((iG b:Nat):Int)) []:=by
 refine aT [] Tryz.func55 ?_;refine⟨fun h=>?_,fun h=>?_⟩
 .have h:b=true:=h;subst h;exact bc
 .have h:b=false:=h;subst h;exact bc
def iH (hh:Bool) (e:bf):aA0:=gO e.nm 1++(eP 1 [iG e.on,iG (e.us&&hh)]++gO (encZ e.s e.g e.es) 2)
def nM (hh:Bool) (l:List bf) (nm:aA0):aA0:=match c1 l nm with
 |some e=>iH hh e
 |none=>[]
def mE (hh:Bool) (l:List bf):aA0:=eP 1 [l.length]++(gm l).flatMap (nM hh l)
abbrev H6 (hh:Bool) (l:List bf) (r k:Nat):aX:=[(0,ah 1001),(1,fk hh),(5,eX r),(21,bv .str (gm l)),(22,ac ((gm l).length:Nat)),(23,ac (k:Nat))]
abbrev alJ (hh:Bool) (l:List bf) (r k:Nat) (nm:aA0) (ad:Nat):aX:=(8,bQ nm)::(9,c8 ad)::H6 hh l r k
abbrev H7 (l:List bf) (r:Nat) (x:aA0):ay:=eC l++[(r,.row 5 .u8 x)]
theorem V2 {hh:Bool} {e:bf} (ax:0<=e.s/\e.s<=4096) (aY:1<=e.g/\e.g<=64) (hn:e.nm.length<=64):(iH hh e).length<=600:=by
 have h:=H3 ax aY e.es;unfold iH;rw[aq5,aq5,yM,yM,nK];simp;omega
theorem D3 {l:List bf} {nm:aA0} (h:nm∈gm l): ∃e,c1 l nm=some e:=by
 unfold gm nE at h;have h:=(List.mergeSort_perm _ _).mem_iff.1 h;rw[A7] at h;obtain⟨d,H,e⟩:=as5.1 h
 cases Z:c1 l nm with
 |some e=>exact⟨e,rfl⟩
 |none=>exact absurd (e▸as0 H) (HF Z)
theorem NM {l:List bf} (h:dO l) (hh:Bool):Fn Tryz.prog 25 [ah 1001,fk hh] (eC l) [] (bv .u8 (mE hh l)) (eC l):=by
 obtain⟨ph,gk,gl⟩:=ki DO;obtain⟨M9,wY,wZ⟩:=ki HD;have bZ:=h.len;have aqP:=HC l;have ud:(dY l).length=l.length:=by unfold dY;exact ar7 _
 have NN:=UI h;have d6:=HY 1 [l.length] (.inl rfl) (fun n hn=>by simp only[ar5] at hn;omega) aw2;have i4:=nK 1 [l.length];refine aT [] Tryz.func25 ?_;refine ak (Fn.arg (Fn.aV [(1002,2002)] d6) ⟨rfl,rfl,(show([((dY l).length:Int)]:List Int)=s9 [l.length] by rw[ud];rfl),trivial⟩) <| ak NN <| dG [6,8] (X:=Nat) (H6 hh l 2001) (fun k=>H7 l 2001 (eP 1 [l.length]++((gm l).take k).flatMap (nM hh l))) (fun k=>k<=(gm l).length) (fun k=>(gm l).length - k) 0 (aq9 _) ?_ ?_
 .exact ab.trans (ab.sub (K':=H6 hh l 2002 0) (B':=H7 l 2002 (eP 1 [l.length]++((gm l).take 0).flatMap (nM hh l))) az ⟨rfl,rfl,rfl,rfl,congrArg (fun l=>some (ba.row _ .u8 l)) (au0 _).symm,trivial⟩) (ab.aV 2002 2001 rfl)
 intro k Z;have Z:k<=(gm l).length:=Z;refine⟨fun J=>?_,fun J=>?_⟩
 .have b':k < (gm l).length:=by simpa using J
  obtain⟨e,U⟩:=D3 (as3 b');have d':=Nz (nM hh l) b';have Gm:=qa (L:=gm l) (n:=(k:Nat)) rfl b';have qO:nM hh l (gm l)[k]=iH hh e:=by unfold nM;rw[U]
  rw[qO] at d';obtain⟨rD,pr⟩:=jR U;obtain⟨ce,cR,er,eQ⟩:=h.ok e rD
  have d5:((eP 1 [l.length]++((gm l).take k).flatMap (nM hh l))).length<=8*600+1:=by
   rw[aq5,i4]
   have E:(((gm l).take k).flatMap (nM hh l)).length<=((gm l).take k).length*600:=yN (nM hh l) 600 _ fun nm aw=>by
    obtain⟨b6,g0⟩:=D3 (List.mem_of_mem_take aw);obtain⟨cC,cF,dD,fm⟩:=h.ok b6 (jR g0).1;unfold nM;rw[g0];exact V2 cC cF fm
   rw[ar3] at E;have aqQ: [l.length].length*1=1:=rfl;omega
  rw[<-pr] at Gm U;have cp:=h.D rD;have ar:=h.M rD;have AS:=HB (alz e.s e.g e.es ce cR) ar rfl rfl rfl rfl;rw[x4 ar] at AS;have mR:=H3 ce cR e.es;have alK:eP 1 [l.length]++((gm l).take (k+1)).flatMap (nM hh l)=(eP 1 [l.length]++((gm l).take k).flatMap (nM hh l))++iH hh e:=by rw[d',au2]
  generalize eP 1 [l.length]++((gm l).take k).flatMap (nM hh l)=A at*;have ue:=DW A e.nm 1 (.inl rfl) aw0 aw0 aw0;have gT:=yM e.nm 1
  have Bf:=yL (A++gO e.nm 1) 1 [iG e.on,iG (e.us&&hh)] (.inl rfl) (fun n hn=>by
   simp only[aq7,List.not_mem_nil,or_false] at hn;rcases hn with rfl |rfl
   .exact H5 _
   .exact H5 _) aw2 (by rw[aq5,gT];omega)
  have pS:=nK 1 [iG e.on,iG (e.us&&hh)];have t3:=DW (A++gO e.nm 1++eP 1 [iG e.on,iG (e.us&&hh)]) (encZ e.s e.g e.es) 2 (.inr (.inl rfl)) aw0 aw0 (by rw[aq5,aq5,gT,pS];simp;omega);have D4:A++gO e.nm 1++eP 1 [iG e.on,iG (e.us&&hh)]++gO (encZ e.s e.g e.es) 2=A++iH hh e:=by unfold iH;simp only[au2]
  refine⟨aw0,e.nm,Gm,br [8] (ab.sub (K':=alJ hh l 2001 k e.nm e.ad) (B':=H7 l 2001 A) ⟨rfl,(Ba U),rfl,rfl,rfl,rfl,rfl,rfl,trivial⟩ az) <| ak (Fn.aV [(1001,2001),(1002,2002)] ue) ⟨_,_,fun N=>i' (b:=e.ad) rfl rfl N,rfl,?_⟩⟩;refine⟨_,_,fun N=>jr rfl Tryz.underlying60 rfl rfl gk ax2 rfl N,rfl,?_⟩;refine⟨_,_,fun N=>ln (q:=1003) rfl Tryz.underlying4 rfl rfl rfl cp rfl N,rfl,?_⟩;refine ak (NL e.on) ⟨_,_,fun N=>i' (b:=e.ad) rfl rfl N,rfl,?_⟩;refine⟨_,_,fun N=>jr rfl Tryz.underlying60 rfl rfl gk ax2 rfl N,rfl,?_⟩;refine⟨_,_,fun N=>ln (q:=1003) rfl Tryz.underlying4 rfl rfl rfl cp rfl N,rfl,?_⟩;refine⟨fun a8=>?NO,fun a8=>?NP⟩
  case' NO=>
   have a8:e.us=true:=a8;rw[a8,Bool.true_and] at Bf t3 D4 pS;refine ak (NL hh) ?_
  case' NP=>
   have a8:e.us=false:=a8;rw[a8,Bool.false_and] at Bf t3 D4 pS;refine ak (Fn.arg (NL false) az) ?_
  all_goals
   refine ak (Fn.aV [(1001,2002),(1002,2003)] Bf) ⟨eM aw3,br [] (bq) ⟨_,_,fun N=>i' (b:=e.ad) rfl rfl N,rfl,?_⟩⟩;refine⟨_,_,fun N=>jr rfl Tryz.underlying60 rfl rfl wY (by rw[wZ];decide) rfl N,rfl,?_⟩;refine⟨_,_,fun N=>ln (q:=1003) rfl Tryz.underlying58 rfl rfl rfl cp rfl N,rfl,?_⟩;exact ak AS <| ak (Fn.aV [(1001,2003),(1002,2004)] t3) ⟨aw0,k+1,b',aw0,ab.trans (ab.sub (K':=H6 hh l 2004 (k+1)) (B':=H7 l 2004 (eP 1 [l.length]++((gm l).take (k+1)).flatMap (nM hh l))) az ⟨rfl,rfl,rfl,rfl,congrArg (fun l=>some (ba.row _ .u8 l)) (D4.trans alK.symm),trivial⟩) (ab.aV 2004 2001 rfl)⟩
 .have b':k=(gm l).length:=by
   have: ¬k < (gm l).length:=by simpa using J
   omega
  subst b';rw[as2];exact⟨_,_,_,ab.d3 2001 rfl,rfl,rfl,az,rfl⟩
end
section
theorem V3 (es:List (aa ai×aa ai)): ∀(n:Nat) (aB:Int),bY (aH:=ai) (aJ:=ai) (hu es n) aB=if(0<=aB/\aB < (n:Int))/\iU es aB=true then some (1:Int) else none
 |0,aB=>by
  rw[if_neg aw0];rfl
 |n+1,aB=>by
  have h:=V3 es n aB;unfold hu
  by_cases ae:iU es (n:Int)=true
  .rw[if_pos ae];obtain⟨d6,cV⟩:=Ah (aH:=ai) (aJ:=ai) rF (n:Int) (1:Int) (hu es n)
   by_cases e:aB=(n:Int)
   .subst e;rw[if_pos ⟨aw0,ae⟩];exact d6
   .rw[cV aB e,h]
    by_cases q:(0<=aB/\aB < (n:Int))/\iU es aB=true
    .rw[if_pos q,if_pos ⟨aw0,q.2⟩]
    .rw[if_neg q,if_neg (fun bj=>q ⟨aw0,bj.2⟩)]
  .rw[if_neg ae,h]
   by_cases q:(0<=aB/\aB < (n:Int))/\iU es aB=true
   .rw[if_pos q,if_pos ⟨aw0,q.2⟩]
   .rw[if_neg q,if_neg (fun bj=>by
     by_cases e:aB=(n:Int)
     .subst e;exact ae bj.2
     .exact q ⟨aw0,bj.2⟩)]
theorem V4 {s g:Int} (ax:0<=s/\s<=4096) (aY:1<=g/\g<=64) {es:List (aa ai×aa ai)} (a2:kl s g es) (aB:Int):iU (hu es (8*fE s g)) aB=iU es aB:=by
 have e5:=H2 ax aY;have h:=V3 es (8*fE s g) aB;have aR:=a2 aB;show DC ((bY (aH:=ai) (aJ:=ai) (hu es (8*fE s g)) aB).getD (cL ai))=_;rw[h]
 cases ae:iU es aB
 .rw[if_neg (fun bj=>by cases bj.2)];rfl
 .have aR:=aR ae;rw[if_pos ⟨aw0,rfl⟩];rfl
theorem V5 {es eE:List (aa ai×aa ai)} (h: ∀aB,iU eE aB=iU es aB) (aB:Int): ∀k,iv eE aB k=iv es aB k
 |0=>rfl
 |k+1=>by unfold iv;rw[h,V5 h aB k]
theorem V6 {es eE:List (aa ai×aa ai)} (h: ∀aB,iU eE aB=iU es aB): ∀n,pw eE n=pw es n
 |0=>rfl
 |n+1=>by unfold pw;rw[V5 h,V6 h n]
theorem alL {s g:Int} (ax:0<=s/\s<=4096) (aY:1<=g/\g<=64) {es:List (aa ai×aa ai)} (a2:kl s g es):encZ s g (hu es (8*fE s g))=encZ s g es:=by
 unfold encZ;rw[V6 (V4 ax aY a2)]
theorem NQ (es:List (aa ai×aa ai)): ∀n,fb (hu es n)
 |0=>List.Pairwise.nil
 |n+1=>by
  unfold hu
  split
  .exact fb.put rF (NQ es n)
  .exact NQ es n
end
section
def hW (l:List bf):List bf:=(gm l).filterMap (c1 l)
theorem V7 (c:Bool) (l:List bf): ∀N:List aA0,(∀nm∈N,∃e,c1 l nm=some e)->N.flatMap (nM c l)=(N.filterMap (c1 l)).flatMap (iH c)
 | [],_=>rfl
 |nm::N,h=>by
  obtain⟨e,U⟩:=h nm (ar4 ..);have E:nM c l nm=iH c e:=by unfold nM;rw[U]
  rw[av1,V7 c l N (fun x hx=>h x (aq6 _ hx)),E,List.filterMap_cons,U];rfl
theorem NR (c:Bool) (l:List bf):mE c l=eP 1 [l.length]++(hW l).flatMap (iH c):=by
 unfold mE hW;rw[V7 c l _ fun nm h=>D3 h]
theorem V8 (l:List bf): ∀N:List aA0,(∀nm∈N,∃e,c1 l nm=some e)->(N.filterMap (c1 l)).map (·.nm)=N
 | [],_=>rfl
 |nm::N,h=>by
  obtain⟨e,U⟩:=h nm (ar4 ..);rw[List.filterMap_cons,U];show e.nm::(N.filterMap (c1 l)).map (·.nm)=_;rw[V8 l N (fun x hx=>h x (aq6 _ hx)),(jR U).2]
theorem NS (l:List bf):(hW l).map (·.nm)=gm l:=V8 l _ fun nm h=>D3 h
theorem alM (l:List bf):(hW l).length=l.length:=by
 rw[<-HC l,<-NS l,ar7]
theorem H8 {l:List bf} {e:bf} (h:e∈hW l):e∈l:=by
 obtain⟨nm,_,G⟩:=List.mem_filterMap.1 h;exact(jR G).1
abbrev yQ:Type:=aA0×Bool×Bool×Int×Int×List (aa ai×aa ai)
def px (e:bf):yQ:=(e.nm,e.on,e.us,e.s,e.g,e.es)
def qZ (e:bf):yQ:=(e.nm,e.on,false,e.s,e.g,hu e.es (8*fE e.s e.g))
def H9 (c:Bool) (p:yQ):aA0:=gO p.1 1++(eP 1 [iG p.2.1,iG (p.2.2.1&&c)]++gO (encZ p.2.2.2.1 p.2.2.2.2.1 p.2.2.2.2.2) 2)
theorem alN (c:Bool) (e:bf):H9 c (px e)=iH c e:=rfl
theorem alO {l:List bf} (h:dO l) (a2: ∀e∈l,kl e.s e.g e.es) {e:bf} (U:e∈l):H9 true (qZ e)=iH false e:=by
 obtain⟨ce,cR,er,eQ⟩:=h.ok e U;unfold H9 qZ iH;show gO e.nm 1++(eP 1 [iG e.on,iG (false&&true)]++gO (encZ e.s e.g (hu e.es (8*fE e.s e.g))) 2)=_;rw[alL ce cR (a2 e U),Bool.and_false];rfl
theorem V9 {c b7:Bool} {g:bf->yQ}: ∀{a b:List bf},a.map px=b.map g->(∀e∈b,H9 c (g e)=iH b7 e)->a.flatMap (iH c)=b.flatMap (iH b7)
 | [],[],_,_=>rfl
 | [],_::_,h,_=>by cases h
 |_::_,[],h,_=>by cases h
 |x::a,y::b,h,q=>by
  injection h with E G
  rw[av1,av1,V9 G (fun e U=>q e (aq6 _ U)),<-alN c x,E,q y (ar4 ..)]
theorem V' {l:List bf} (h:dO l) {e:bf} (U:e∈l):c1 l e.nm=some e:=by
 cases Z:c1 l e.nm with
 |none=>exact absurd (as0 U) (HF Z)
 |some b6=>
  obtain⟨E,G⟩:=jR Z;rw[vq h.iA E U G]
theorem Wa {l:List bf} (h:dO l): ∀N:List bf,(∀e∈N,e∈l)->(N.map (·.nm)).filterMap (c1 l)=N
 | [],_=>rfl
 |e::N,q=>by
  rw[ar8,List.filterMap_cons,V' h (q e (ar4 ..)),Wa h N fun x hx=>q x (aq6 _ hx)]
theorem alP {l l':List bf} (h:dO l) (h':dO l') (a2: ∀e∈l,kl e.s e.g e.es) (ae:l'.map px=(hW l).map qZ):mE true l'=mE false l:=by
 have hn:l'.map (·.nm)=gm l:=by
  rw[<-NS l];have E:=congrArg (List.map fun p:yQ=>p.1) ae;rw[at8,at8] at E;exact E
 have H:gm l'=l'.map (·.nm):=by
  rw[hn];unfold gm nE;rw[A7 l',hn];unfold gm nE;exact Go.mergeSort_of_perm (List.mergeSort_perm _ _)
 have ax:hW l'=l':=by
  unfold hW;rw[H];exact Wa h' l' fun e U=>U
 have ap:l'.length=l.length:=by
  have:=congrArg List.length hn
  rwa[ar7,HC] at this
 rw[NR,NR,ax,ap,V9 ae fun e U=>alO h a2 (H8 U)]
end
section
abbrev g8:bA:=.arr 16 .u8
abbrev py:bA:=.bK (.int .i64) g8
structure bX where
 n:Int
 R:Int
 l8:List (aa ai×aa g8)
 bH:List (aa ai×aa g8)
 e6:List (aa py)
abbrev iV (c d e f:Nat) (m:bX):ay:=[(c,.cells [.d (.int .i64 m.n),.d (.int .i64 m.R),.mp d,.mp e,.own f]),(d,.map ai g8 m.l8),(e,.map ai g8 m.bH),(f,.row 259 py m.e6)]
def hi (m:bX):bg:=.i9 1001 (iV 1001 1002 1003 1004 m)
def pz (n:Int):Bool:=decide (0<=n)&&decide (n<=4096)
theorem alQ (n:Int):Fn Tryz.prog 241 [ac n] [] [] (fk (pz n)) []:=by
 refine aT [] Tryz.func241 ?_;refine⟨fun h=>?_,fun h=>?_⟩
 .exact ej bq rfl (show decide (n<=4096)=pz n by simp at h;simp[pz,h])
 .exact ej bq rfl (show false=pz n by simp at h;simp[pz];omega)
theorem alR (n r:Int) (h:(pz n&&decide (0<=r))=true):Fn Tryz.prog 216 [ac n,ac r] [] [1001] (.cb [.one (.ptr 1001 0),dp 0]) [(1001,.aF (hi ⟨n,r,[],[],[]⟩))]:=by
 refine aT [] Tryz.func216 ?_;refine ak (alQ n) ?_;simp only[vj,as1] at h;refine⟨fun E=>?_,fun E=>?_⟩
 .exfalso;simp[h.1] at E
 refine⟨fun G=>?_,fun G=>?_⟩
 .exfalso;simp at G;omega
 exact⟨rfl,rfl,rfl,_,_,_,(ab.wc 18 4 1004 259 py rfl rfl rfl).trans ((ab.aV 18 1001 rfl).trans ((ab.aV 15 1002 rfl).trans ((ab.aV 16 1003 rfl).trans (ab.close 1001 (iV 1001 1002 1003 1004 ⟨n,r,[],[],[]⟩) (o:=hi ⟨n,r,[],[],[]⟩) az rfl fun _ _ _ _ h=>h)))),rfl,az,az,rfl⟩
end
section
theorem Wb (es:List (aa ai×aa g8)):Fn Tryz.prog 179 [.c (.one (.mp 1001))] [(1001,.map ai g8 es)] [2001] (.c (.one (.mp 2001))) [(1001,.map ai g8 es),(2001,.map ai g8 es)]:=
 Uv adH aw3 es
end
section
abbrev Bg:aA1:=[1002,1003,1004]
theorem D5 {f:FuncId} {args:List aO} {m gx:bX} {aI aN:ay} {res:aO} {bb:aA1} (h:Fn Tryz.prog f args (iV 1001 1002 1003 1004 m++aI) bb res (iV 1001 1002 1003 1004 gx++aN))
  (E:ob 1001 Bg args (iV 1001 1002 1003 1004 m) aI bb []=true) (G:oc 1001 (mY Bg bb []) res (iV 1001 1002 1003 1004 gx) aN=true):
  Fn Tryz.prog f args ((1001,.aF (hi m))::aI) [] res ((1001,.aF (hi gx))::aN):=
 (cA.close (bp:=iV 1001 1002 1003 1004 m) (dz:=fun _:Unit=>iV 1001 1002 1003 1004 gx) (aN:=fun _=>aN) (o:=hi m) (o':=fun _=>hi gx) Bg h.x (fun _ _ _ _ h=>h) (fun _ _ _ _ _ h=>h) E (fun _=>G)).fn
def bX.kM (m:bX) (at_ a1:Int):Bool:=decide (0<=at_)&&decide (a1<=m.n)&&decide (at_<=m.n - a1)
theorem alS (m:bX):Fn Tryz.prog 238 [ah 1001] [(1001,.aF (hi m))] [] (ac m.n) [(1001,.aF (hi m))]:=by
 refine D5 (aI:=[]) (aN:=[]) (bb:=[]) ?_ rfl rfl;refine aT [] Tryz.func238 ?_;exact bc
theorem Wc (m:bX):Fn Tryz.prog 264 [ah 1001] (iV 1001 1002 1003 1004 m) [] (ac (m.bH.length:Nat)) (iV 1001 1002 1003 1004 m):=by
 refine aT [] Tryz.func264 ?_;exact bc
theorem NT (m:bX) (at_ a1:Int) (av:0<=a1) (E:0<=m.n) (G:m.n<=4096):Fn Tryz.prog 262 [ah 1001,ac at_,ac a1] (iV 1001 1002 1003 1004 m) [] (fk (m.kM at_ a1)) (iV 1001 1002 1003 1004 m):=by
 refine aT [] Tryz.func262 ?_;refine⟨fun h=>?_,fun h=>?_⟩
 .have h:decide (0<=at_)=true:=h;refine⟨fun al=>?_,fun al=>?_⟩
  .have al:decide (a1<=m.n)=true:=al;have aW:a1<=m.n:=by simpa using al
   refine⟨aw0,?_⟩;exact ej bq rfl (show decide (at_<=m.n - a1)=m.kM at_ a1 by rw[bX.kM,h,al];rfl)
  .have al:decide (a1<=m.n)=false:=al;exact ej bq rfl (show false=m.kM at_ a1 by rw[bX.kM,h,al];rfl)
 .have h:decide (0<=at_)=false:=h;exact ej bq rfl (show false=m.kM at_ a1 by rw[bX.kM,h];rfl)
def bX.oH (m:bX):bX:={m with l8:=m.bH,e6:=[]}
theorem alT (m:bX):Fn Tryz.prog 243 [ah 1001] (iV 1001 1002 1003 1004 m) [2001,2002] gV (iV 1001 2001 1003 2002 m.oH):=by
 refine aT [] Tryz.func243 ?_;exact ak (Fn.aV [(1001,1003)] (Wb m.bH)) ⟨_,_,_,ab.wc 1001 4 2002 259 py rfl rfl rfl,rfl,trivial,az,rfl⟩
end
section
theorem NU {f:FuncId} {args:List aO} {m gx:bX} {aI aN:ay} {res:aO} {bb:aA1} {d e g:Nat} (l:List (Nat×Nat)) (h:Fn Tryz.prog f args (iV 1001 1002 1003 1004 m++aI) bb res (iV 1001 d e g gx++aN))
  (ap:eF (lj l []) 1001=1001/\eF (lj l []) d=1002/\eF (lj l []) e=1003/\eF (lj l []) g=1004)
  (E:ob 1001 Bg args (iV 1001 1002 1003 1004 m) aI bb []=true) (G:oc 1001 (mY Bg bb []) res (iV 1001 d e g gx) aN=true):
  Fn Tryz.prog f args ((1001,.aF (hi m))::aI) [] res ((1001,.aF (hi gx))::aN):=
 (cA.close (bp:=iV 1001 1002 1003 1004 m) (dz:=fun _:Unit=>iV 1001 d e g gx) (aN:=fun _=>aN) (o:=hi m) (o':=fun _=>hi gx) Bg h.x (fun _ _ _ _ h=>h) (fun _ I F w p bj=>by
  have:=iO.aV l bj;obtain⟨af,ao,bm,c6⟩:=ap;simp only[iV,kf,af,ao,bm,c6,ba.eF,Aa,bC.eF] at this;exact this) E (fun _=>G)).fn
theorem alU (m:bX):Fn Tryz.prog 243 [ah 1001] [(1001,.aF (hi m))] [] gV [(1001,.aF (hi m.oH))]:=
 NU (aI:=[]) (aN:=[]) [(2001,1002),(2002,1004)] (alT m) ⟨rfl,rfl,rfl,rfl⟩ rfl rfl
def yR (l:List Int) (v:Int):Int:=match l.idxOf? v with
 |some i=>(i:Nat)
 |none=> -1
theorem alV (l:List Int) (v:Int) (ap:l.length<=4294967296):Fn Tryz.prog 213 [bv ai l,ac v] [] [] (ac (yR l v)) []:=by
 refine aT [] Tryz.func213 ?_;refine dG [] (X:=Nat) (fun k=>[(0,bv ai l),(1,ac v),(7,ac (l.length:Nat)),(8,ac (k:Nat))]) (fun _=>[]) (fun k=>k<=l.length/\ ∀(i:Nat),i < k->l[i]? ≠some v) (fun k=>l.length - k) 0 ⟨aq9 _,fun i h=>absurd h (av5 _)⟩ ?_ ?_
 .exact ab.sub az trivial
 intro k ⟨Z,ae⟩;refine⟨fun h=>?_,fun h=>?_⟩
 .have b':k < l.length:=by
   have h:decide ((k:Int) < (l.length:Int))=true:=h;simpa using h
  refine⟨aw0,l[k],iR (n:=k) b',fun G=>?_,fun G=>?_⟩
  .have G:v=l[k]:=gd G;refine⟨_,_,_,bq,rfl,(show((k:Nat):Int)=yR l v from ?_),trivial,rfl⟩
   have:l.idxOf? v=some k:=by
    rw[List.idxOf?_eq_some_iff];refine⟨b',by simp[G],fun j V=>?_⟩;have:=ae j V;rw[oj aw0] at this;simpa using this
   rw[yR,this]
  .have G:v≠l[k]:=mu G;refine⟨aw0,k+1,⟨aw0,fun i aG=>?_⟩,aw0,ab.sub az trivial⟩;rcases Nat.lt_or_ge i k with aW |aW
   .exact ae i aW
   .have:i=k:=aw8
    subst this;rw[oj b'];intro e;injection e with e
    exact G e.symm
 .have h:decide ((k:Int) < (l.length:Int))=false:=h;have fc:k=l.length:=az3
  refine⟨_,_,_,bq,rfl,(show(-1:Int)=yR l v from ?_),trivial,rfl⟩
  have:l.idxOf? v=none:=by
   rw[List.idxOf?_eq_none_iff];intro aw;obtain⟨i,aG,e⟩:=List.getElem_of_mem aw;have:=ae i aw0;rw[oj aG] at this;exact this (by rw[e])
  rw[yR,this]
theorem alW (l:List Int) (v:Int) (ap:l.length<=4294967296):Fn Tryz.prog 178 [bv ai l,ac v] [] [] (fk (l.contains v)) []:=by
 refine aT [] Tryz.func178 ?_;refine ak (alV l v ap) ⟨_,_,_,bq,rfl,(show decide (0<=yR l v)=l.contains v from ?_),trivial,rfl⟩;unfold yR
 cases h:l.idxOf? v with
 |none=>
  rw[List.idxOf?_eq_none_iff] at h;simp[h]
 |some i=>
  obtain⟨aG,e,_⟩:=List.idxOf?_eq_some_iff.1 h
  have:v∈l:=by
   have:=as3 aG
   rwa[show l[i]=v by simpa using e] at this
  simp[this]
end
section
abbrev alX (x y:aA0) (i:Nat):aX:=[(0,bv .u8 x),(1,bv .u8 y),(12,ac (x.length:Nat)),(13,ac (i:Nat))]
theorem alY {x y:aA0} {i:Nat} (hx:i < x.length) (aD:i < y.length) (h:x.take i=y.take i) (U:x[i]=y[i]):x.take (i+1)=y.take (i+1):=by
 rw[at7 hx,at7 aD,h,U]
theorem Wd (x y:aA0) (hx:x.length<=4294967296) (aD:y.length<=4294967296):Fn Tryz.prog 135 [bv .u8 x,bv .u8 y] [] [] (fk (decide (x=y))) []:=by
 refine aT [] Tryz.func135 ?_;refine⟨fun h=>?_,fun h=>?_⟩
 .have h:(!decide ((x.length:Int)=(y.length:Nat)))=true:=h;have a6:x≠y:=fun e=>by rw[e] at h;simp at h
  rw[at3 a6];exact bc
 have h:(!decide ((x.length:Int)=(y.length:Nat)))=false:=h;have ap:x.length=y.length:=az3
 refine dG [] (X:=Nat) (alX x y) (fun _=>[]) (fun i=>i<=x.length/\x.take i=y.take i) (fun i=>x.length - i) 0 ⟨aq9 _,rfl⟩ ?_ ?_
 .exact ab.sub az trivial
 rintro i ⟨aG,cn⟩;refine⟨fun G=>?_,fun G=>?_⟩
 .have G:decide ((i:Int) < (x.length:Int))=true:=G;have dJ:i < x.length:=by simpa using G
  have ox:i < y.length:=aw8
  refine⟨aw0,x[i],iR (n:=i) dJ,aw0,y[i],iR (n:=i) ox,rfl,fun al=>?_,fun al=>?_⟩
  .have al:(!decide ((UInt8.toNat x[i]:Int)=(UInt8.toNat y[i]:Nat)))=true:=al
   have a6:x≠y:=fun e=>by
    subst e;simp at al
   rw[at3 a6];exact bc
  .have al:(!decide ((UInt8.toNat x[i]:Int)=(UInt8.toNat y[i]:Nat)))=false:=al
   have U:x[i]=y[i]:=by
    have aW:(UInt8.toNat x[i]:Int)=(UInt8.toNat y[i]:Nat):=by simpa using al
    exact UInt8.toNat_inj.1 aw0
   exact⟨aw0,i+1,⟨aw0,alY dJ ox cn U⟩,aw0,ab.sub az trivial⟩
 .have G:decide ((i:Int) < (x.length:Int))=false:=G;have dJ:i=x.length:=by simp at G;omega
  subst dJ
  have U:x=y:=by
   rw[as2] at cn;rw[cn,ap,as2]
  rw[ar6 U];exact bc
end
section
structure vy (e:bf):Prop where
 ok:ow e.s e.g=true
 f4:kl e.s e.g e.es
 nm:g4 e.nm=true
abbrev alZ (l:List bf) (k:Nat):aX:=[(0,bv .u8 (mE false l)),(4,ah 1001),(5,ah 3001),(13,ac (l.length:Nat)),(14,ac (k:Nat))]
abbrev al0 (l':List bf) (x:aA0):ay:=[(1001,.cells [.mp 1002]),(1002,.map .str .aL (dY l')),(1003,.aF (.bw (j8 l'))),(1004,.aF (.bw (jQ l'))),(3001,.cells [.d (.cf .u8 x),.d (.int .i64 0)])]
structure al1 (l:List bf) (p:Nat×List bf):Prop where
 k:p.1<=l.length
 ok:dO p.2
 H':p.2.map px=((hW l).take p.1).map qZ
theorem We {o o':bg} {b:Nat}: ∀{L:List (Nat×bg)},eB L b=some o->eB (ff L b o') b=some o'
 | [],h=>by cases h
 |(c,x)::L,h=>by
  by_cases e:c=b
  .subst e;simp[ff,eB]
  .have G:eB L b=some o:=by simpa[eB,e] using h
   have al:=We (o':=o') G;simpa[ff,eB,e] using al
theorem Wf {o:bg}: ∀{L:List bf} {n n':bf},n.ad∉L.map (·.ad)->n'.ad=n.ad->ff (ff (j8 (L++[n])) n.ad o) n.ad (qS n'.nm n'.on n'.us n'.du)=j8 (L++[n'])
 | [],n,n',_,e=>by simp[j8,ff,e]
 |d::L,n,n',h,e=>by
  have E: ¬d.ad=n.ad:=fun e=>h (by rw[<-e];exact ar4 ..)
  have G:=Wf (o:=o) (L:=L) (n:=n) (n':=n') (fun bj=>h (aq6 _ bj)) e;simpa[j8,ff,E] using G
theorem dO.oC {L:List bf} {n n':bf} (h:dO (L++[n])) (E:n'.nm=n.nm) (G:n'.ad=n.ad) (al:n'.du=n.du) (aW:n'.s=n.s) (bG:n'.g=n.g) (fP:n'.es=n.es):dO (L++[n']):=by
 refine⟨by have:=h.iA;simpa[E] using this,by have:=h.lv;simpa[G] using this,by have:=h.vp;simpa[al] using this,fun e U=>?_,by have:=h.len;simpa using this⟩;rcases as4.1 U with U |U
 .exact h.ok e (as4.2 (.inl U))
 .rw[ar5] at U;subst U;rw[E,aW,bG,fP];exact h.ok n (as4.2 (.inr (ar5.2 rfl)))
theorem al2 {l:List bf} (h:dO l) (aZ: ∀e∈l,vy e):cA Tryz.prog 82 [bv .u8 (mE false l)] [] [1001,1002,1003,1004] (X:={l':List bf//dO l'/\l'.map px=(hW l).map qZ}) (fun _=>.cb [.one (.ptr 1001 0),dp 0]) (fun p=>eC p.1):=by
 obtain⟨ph,gk,gl⟩:=ki DO;have bZ:=h.len;have hB:=alM l
 have aqR:((hW l).flatMap (iH false)).length<=8*600:=by
  have E:=yN (iH false) 600 (hW l) fun e U=>by
   obtain⟨cC,cF,dD,fm⟩:=h.ok e (H8 U);exact V2 cC cF fm
  omega
 have sY:=NR false l
 have aqS:(mE false l).length<=5000:=by
  rw[sY,aq5,nK];simp only[List.length_singleton];omega
 have gM:=HZ (mE false l) aw0;have kL:=ps (eq l.length 1++(hW l).flatMap (iH false),0) 1 (.inl rfl);rw[pt aw0] at kL
 have al3:eq l.length 1++(hW l).flatMap (iH false)=mE false l:=by
  rw[sY];unfold eP;simp
 rw[al3] at kL;refine hQ [7,11] Tryz.func82 ?_;refine ak UH <| ak (Fn.aV [(1001,3001)] gM) <| ak (Fn.aV [(1001,3001)] kL) <| dG [7] (X:=Nat×List bf) (fun p=>alZ l p.1) (fun p=>al0 p.2 (((hW l).drop p.1).flatMap (iH false))) (al1 l) (fun p=>l.length - p.1) (0,[]) ⟨aq9 _,?_,rfl⟩ ?_ ?_
 .exact dO.nil
 .exact ab.sub az az
 rintro⟨k,l'⟩ ae;have Z:k<=l.length:=ae.k;refine⟨fun J=>?_,fun J=>?_⟩
 .have J:decide ((k:Int) < (l.length:Int))=true:=J;have J:=gd J;have b':k < (hW l).length:=aw8
  have al4:k+1<=l.length:=aw8
  obtain⟨e,U⟩: ∃e,e=(hW l)[k]:=⟨_,rfl⟩;have rD:e∈l:=H8 (U▸as3 b');obtain⟨ce,cR,er,eQ⟩:=h.ok e rD;have NV:=aZ e rD
  have eK:((hW l).drop k).flatMap (iH false)=iH false e++((hW l).drop (k+1)).flatMap (iH false):=by
   rw[List.drop_eq_getElem_cons b',av1,U]
  generalize gM:((hW l).drop (k+1)).flatMap (iH false)=bn at*;have ue:=DZ (iH false e++bn,0) 1 (.inl rfl);have t6:=H5 e.on;have mR:=H3 ce cR e.es
  have af:iH false e++bn=gO e.nm 1++(eq (iG e.on) 1++(eq (iG (e.us&&false)) 1++(gO (encZ e.s e.g e.es) 2++bn))):=by
   unfold iH eP;simp[au2]
  rw[<-eK] at ue;have af:=eK.trans af;rw[af] at ue;rw[D0 aw0] at ue;rw[<-af] at ue;have Bf:=ps (eq (iG e.on) 1++(eq (iG (e.us&&false)) 1++(gO (encZ e.s e.g e.es) 2++bn)),0) 1 (.inl rfl);rw[pt t6] at Bf;have t3:=ps (eq (iG (e.us&&false)) 1++(gO (encZ e.s e.g e.es) 2++bn),0) 1 (.inl rfl);rw[pt (H5 _)] at t3;have t4:=DZ (gO (encZ e.s e.g e.es) 2++bn,0) 2 (.inr (.inl rfl));rw[D0 aw0] at t4;have al5:=alE e.s e.g e.es NV.ok NV.f4;refine ak (Fn.aV [(1001,3001)] ue) <| ak (Fn.aV [(1001,3001)] Bf) <| ak (Fn.aV [(1001,3001)] t3) ⟨rfl,ak (Fn.aV [(1001,3001)] t4) ⟨(show(encZ e.s e.g e.es).length<=4294967296 by omega),ak (Fn.aV [(2001,6001),(2002,6002)] al5) ?_⟩⟩;show bk _ _ _ _ _ _ _
  have al6:l'.map (·.nm)=((hW l).take k).map (·.nm):=by
   have E:=congrArg (List.map fun p:yQ=>p.1) ae.H';rw[at8,at8] at E;exact E
  have dR:((hW l).map (·.nm)).Nodup:=by
   rw[NS];unfold gm nE;rw[(List.mergeSort_perm _ _).nodup_iff,A7];exact h.iA
  have f1:l'.length=k:=by
   have:=congrArg List.length ae.H';rw[ar7,ar7,ar3] at this;show l'.length=k;have yb:(k,l').snd.length=min (k,l').fst (hW l).length:=this;have aqT:l'.length=min k (hW l).length:=yb;omega
  have fH:c1 l' e.nm=none:=by
   cases al7:c1 l' e.nm with
   |none=>rfl
   |some x=>
    exfalso;obtain⟨g1,g2⟩:=jR al7;have c2:e.nm∈l'.map (·.nm):=g2▸as0 g1;rw[al6] at c2;rw[<-List.take_append_drop k (hW l),List.drop_eq_getElem_cons b',<-U,at9,ar8] at dR;exact(List.nodup_append.1 dR).2.2 _ c2 _ (ar4 ..) rfl
  have qU:=UP ae.ok e.nm aw0 NV.nm fH (by show l'.length < 8;omega) e.s e.g (hu e.es (8*fE e.s e.g)) ⟨ce,cR,NQ _ _⟩;refine bk.gz ee aw3 ?_;refine cX <| hp (cA.aV [(2001,6001),(2002,6002)] qU) fun g=>cX ?_
  obtain⟨⟨ad,du⟩,n2⟩:=g;have s3:=Ba (V' n2 (e:=⟨e.nm,ad,du,true,true,e.s,e.g,hu e.es (8*fE e.s e.g)⟩) aw2);refine⟨_,_,fun N=>i' (b:=ad) rfl (by exact congrArg (fun o=>aO.c (.one (.d (.aL o)))) s3) N,rfl,?_⟩;have Ia:=n2.D (e:=⟨e.nm,ad,du,true,true,e.s,e.g,hu e.es (8*fE e.s e.g)⟩) aw2;refine⟨_,_,fun N=>jr rfl Tryz.underlying60 rfl rfl gk ax2 rfl N,rfl,?_⟩;refine⟨_,_,fun N=>Ak (q:=1003) (b:=ad) (j:=1) (y:=.bool (decide (((iG e.on:Nat):Int)=1))) (l:=A6 e.nm true true du) (h':=fun _=>rfl) rfl gk gl rfl rfl rfl Ia (show 1 < 4 by decide) M8 N,rfl,?_⟩;refine⟨_,_,fun N=>i' (b:=ad) rfl (by exact congrArg (fun o=>aO.c (.one (.d (.aL o)))) s3) N,rfl,?_⟩;refine⟨_,_,fun N=>jr rfl Tryz.underlying60 rfl rfl gk ax2 rfl N,rfl,?_⟩;have NW:eB (ff (j8 (l'++[⟨e.nm,ad,du,true,true,e.s,e.g,hu e.es (8*fE e.s e.g)⟩])) ad (qS e.nm (decide (((iG e.on:Nat):Int)=1)) true du)) ad=some (qS e.nm (decide (((iG e.on:Nat):Int)=1)) true du):=We Ia;refine⟨_,_,fun N=>Ak (q:=1003) (b:=ad) (j:=2) (y:=.bool (decide (((iG (e.us&&false):Nat):Int)=1))) (l:=A6 e.nm (decide (((iG e.on:Nat):Int)=1)) true du) (h':=fun _=>rfl) rfl gk gl rfl rfl rfl NW (show 2 < 4 by decide) M8 N,rfl,?_⟩;refine⟨eM aw3,?_⟩;have vz:decide (((iG e.on:Nat):Int)=1)=e.on:=by cases e.on <;>rfl
  have su:decide (((iG (e.us&&false):Nat):Int)=1)=false:=by cases e.us <;>rfl
  have Ib:ad∉l'.map (·.ad):=by
   have E:=n2.lv;rw[at9] at E;exact fun h=>(List.nodup_append.1 E).2.2 _ h _ (ar4 ..) rfl
  have lM:=Wf (L:=l') (n:=⟨e.nm,ad,du,true,true,e.s,e.g,hu e.es (8*fE e.s e.g)⟩) (n':=⟨e.nm,ad,du,e.on,false,e.s,e.g,hu e.es (8*fE e.s e.g)⟩) (o:=qS e.nm e.on true du) Ib rfl
  have uO:dY (l'++[⟨e.nm,ad,du,true,true,e.s,e.g,hu e.es (8*fE e.s e.g)⟩])=dY (l'++[⟨e.nm,ad,du,e.on,false,e.s,e.g,hu e.es (8*fE e.s e.g)⟩]):=by
   unfold dY;rw[at9,at9];rfl
  have iY:jQ (l'++[⟨e.nm,ad,du,true,true,e.s,e.g,hu e.es (8*fE e.s e.g)⟩])=jQ (l'++[⟨e.nm,ad,du,e.on,false,e.s,e.g,hu e.es (8*fE e.s e.g)⟩]):=by
   unfold jQ;rw[at9,at9];rfl
  have al8:dO (l'++[⟨e.nm,ad,du,e.on,false,e.s,e.g,hu e.es (8*fE e.s e.g)⟩]):=n2.oC rfl rfl rfl rfl rfl rfl;refine⟨aw0,(k+1,l'++[⟨e.nm,ad,du,e.on,false,e.s,e.g,hu e.es (8*fE e.s e.g)⟩]),⟨al4,al8,?_⟩,by show l.length - (k+1) < l.length - k;omega,ab.sub az ⟨rfl,congrArg (fun x=>some (ba.map .str .aL x)) uO,?_,congrArg (fun x=>some (ba.aF (.bw x))) iY,congrArg (fun x=>some (ba.cells [.d (.cf .u8 x),.d (.int .i64 0)])) gM.symm,trivial⟩⟩
  .show(l'++[_]).map px=((hW l).take (k+1)).map qZ;have aP:l'.map px=((hW l).take k).map qZ:=ae.H';rw[at9,aP,at7 b',at9,<-U];rfl
  .have al9:ff (ff (j8 (l'++[⟨e.nm,ad,du,true,true,e.s,e.g,hu e.es (8*fE e.s e.g)⟩])) ad (qS e.nm (decide (((iG e.on:Nat):Int)=1)) true du)) ad (qS e.nm (decide (((iG e.on:Nat):Int)=1)) (decide (((iG (e.us&&false):Nat):Int)=1)) du)=j8 (l'++[⟨e.nm,ad,du,e.on,false,e.s,e.g,hu e.es (8*fE e.s e.g)⟩]):=by
    rw[vz,su];exact lM
   exact congrArg (fun x=>some (ba.aF (.bw x))) al9
 .have J:decide ((k:Int) < (l.length:Int))=false:=J;have J:=mu J;have b':k=l.length:=aw8
  subst b'
  have Bc:l'.map px=(hW l).map qZ:=by
   have E:l'.map px=((hW l).take l.length).map qZ:=ae.H'
   rwa[<-hB,as2] at E
  have av:((hW l).drop l.length).flatMap (iH false)=[]:=by rw[<-hB,List.drop_length];rfl
  have l4:=ND (((hW l).drop l.length).flatMap (iH false),0);rw[show qY (((hW l).drop l.length).flatMap (iH false),0)=0 by rw[av];rfl] at l4;have pr:=NM (l:=l') ae.ok true;have Wg:=alP h ae.ok (fun e U=>(aZ e U).f4) Bc;have aP:=Wd (mE true l') (mE false l) (by rw[Wg];omega) aw0;rw[ar6 Wg] at aP;exact br [] (bq) <| ak (Fn.aV [(1001,3001)] l4) <| cX <| ak (Fn.arg pr az) <| ak aP <| cX ⟨⟨l',ae.ok,Bc⟩,_,_,_,bq,rfl,az,az,rfl⟩
end
section
def yS (c:UInt8) (p:Int×Int):Int×Int:=((p.1+(UInt8.toNat c:Int)) % 65521,(p.2+(p.1+(UInt8.toNat c:Int)) % 65521) % 65521)
def oI (x:aA0) (p:Int×Int):Int×Int:=x.foldl (fun p c=>yS c p) p
def Bh (p:Int×Int):Prop:=(0<=p.1/\p.1 < 65521)/\(0<=p.2/\p.2 < 65521)
theorem al' {c:UInt8} {p:Int×Int} (h:Bh p):Bh (yS c p):=by
 unfold Bh yS;simp only;have:=h.1;have:=h.2;omega
theorem Ic: ∀{x:aA0} {p:Int×Int},Bh p->Bh (oI x p)
 | [],_,h=>h
 |c::x,p,h=>Ic (x:=x) (al' h)
theorem ama (x:aA0) (c:UInt8) (p:Int×Int):oI (x++[c]) p=yS c (oI x p):=by
 unfold oI;rw[av3];rfl
def jw (x:aA0):Int:=65536*(oI x (1,0)).2+(oI x (1,0)).1
theorem NX (x:aA0):0<=jw x/\jw x < 4294967296:=by
 have h:=Ic (x:=x) (p:=(1,0)) ⟨aw1,aw1⟩;unfold jw;have:=h.1;have:=h.2;omega
theorem amb (c:UInt8) (p:Int×Int) (h:Bh p):Fn Tryz.prog 263 [kS (.d (.int .u8 (UInt8.toNat c:Int))),ah 1001,ah 1002] [(1001,.cells [.d (.int .i64 p.1)]),(1002,.cells [.d (.int .i64 p.2)])] [] (.cb [.one (.d (.int .i64 (yS c p).1)),.one (.d (.int .i64 (yS c p).2))]) [(1001,.cells [.d (.int .i64 p.1)]),(1002,.cells [.d (.int .i64 p.2)])]:=by
 have J:UInt8.toNat c < 256:=UInt8.toNat_lt c;obtain⟨⟨E,G⟩,al,aW⟩:=h;refine aT [] Tryz.func263 ?_;have cC: -9223372036854775808<=(UInt8.toNat c:Int)/\(UInt8.toNat c:Int)<=9223372036854775807:=aw8
 refine⟨cC,?_⟩;have cF: -9223372036854775808<=p.1+(UInt8.toNat c:Int)/\p.1+(UInt8.toNat c:Int)<=9223372036854775807:=aw8
 refine⟨cF,?_⟩;have dD:0<=p.1+(UInt8.toNat c:Int)/\(0:Int) < 65521:=aw8
 have fm: -9223372036854775808<=(p.1+(UInt8.toNat c:Int)) % 65521/\(p.1+(UInt8.toNat c:Int)) % 65521<=9223372036854775807:=aw8
 refine⟨dD,fm,?_⟩;have x0: -9223372036854775808<=p.2+(p.1+(UInt8.toNat c:Int)) % 65521/\p.2+(p.1+(UInt8.toNat c:Int)) % 65521<=9223372036854775807:=aw8
 refine⟨x0,?_⟩;have wo:0<=p.2+(p.1+(UInt8.toNat c:Int)) % 65521/\(0:Int) < 65521:=aw8
 have x1: -9223372036854775808<=(p.2+(p.1+(UInt8.toNat c:Int)) % 65521) % 65521/\(p.2+(p.1+(UInt8.toNat c:Int)) % 65521) % 65521<=9223372036854775807:=aw8
 exact⟨wo,x1,rfl,bc⟩
abbrev Wh (p:Int×Int):ay:=[(3,.cells [.d (.int .i64 p.1)]),(4,.cells [.d (.int .i64 p.2)])]
abbrev amc (bE:List aA0) (i:Nat):aX:=[(3,ah 3),(4,ah 4),(5,.c (.one (.cY 263 [.p 3 0,.p 4 0]))),(11,bv (.b4 .u8) bE),(12,ac (bE.length:Nat)),(13,ac (i:Nat))]
abbrev amd (bE:List aA0) (i:Nat) (x:aA0) (j:Nat):aX:=[(3,ah 3),(4,ah 4),(5,.c (.one (.cY 263 [.p 3 0,.p 4 0]))),(11,bv (.b4 .u8) bE),(12,ac (bE.length:Nat)),(13,ac (i:Nat)),(17,bv .u8 x),(18,ac (x.length:Nat)),(19,ac (j:Nat))]
theorem Wi {bE:List aA0} {i:Nat} (h:i < bE.length):(bE.take (i+1)).flatten=(bE.take i).flatten++bE[i]:=by
 rw[at7 h,List.flatten_append];simp
theorem NY (bE:List aA0) (ap:bE.length<=1000000) (ae: ∀x∈bE,x.length<=4294967296):Fn Tryz.prog 240 [bv (.b4 .u8) bE] [] [] (ac (jw bE.flatten)) []:=by
 refine aT [] Tryz.func240 ?_;refine⟨rfl,rfl,dG [] (X:=Nat) (amc bE) (fun i=>Wh (oI (bE.take i).flatten (1,0))) (fun i=>i<=bE.length) (fun i=>bE.length - i) 0 (aq9 _) ?_ ?_⟩
 .exact ab.sub az az
 intro i aG;refine⟨fun h=>?_,fun h=>?_⟩
 .have h:decide ((i:Int) < (bE.length:Int))=true:=h;have dJ:i < bE.length:=aw9
  have hx:=ae _ (as3 dJ);refine⟨aw0,bE[i],iR (n:=i) dJ,dG [] (X:=Nat) (fun j=>amd bE i bE[i] j) (fun j=>Wh (oI ((bE.take i).flatten++bE[i].take j) (1,0))) (fun j=>j<=bE[i].length) (fun j=>bE[i].length - j) 0 (aq9 _) ?_ ?_⟩
  .refine ab.sub az ⟨?_,?_,trivial⟩
   .rw[List.take_zero,au0];rfl
   .rw[List.take_zero,au0];rfl
  intro j V;refine⟨fun G=>?_,fun G=>?_⟩
  .have G:decide ((j:Int) < (bE[i].length:Int))=true:=G;have eS:j < bE[i].length:=by simpa using G
   have ax:oI ((bE.take i).flatten++bE[i].take (j+1)) (1,0)=yS bE[i][j] (oI ((bE.take i).flatten++bE[i].take j) (1,0)):=by
    rw[at7 eS,<-au2,ama]
   have bz:=Ic (x:=(bE.take i).flatten++bE[i].take j) (p:=(1,0)) ⟨aw1,aw1⟩;refine⟨aw0,bE[i][j],iR (n:=j) eS,ak (Fn.aV [(1001,3),(1002,4)] (amb bE[i][j] _ bz)) ⟨aw0,j+1,aw0,aw0,ab.sub az ⟨?_,?_,trivial⟩⟩⟩
   .rw[ax];rfl
   .rw[ax];rfl
  .have G:decide ((j:Int) < (bE[i].length:Int))=false:=G;have eS:j=bE[i].length:=by simp at G;omega
   subst eS;refine⟨aw0,i+1,aw0,aw0,ab.sub az ⟨?_,?_,trivial⟩⟩
   .rw[Wi dJ,as2];rfl
   .rw[Wi dJ,as2];rfl
 .have h:decide ((i:Int) < (bE.length:Int))=false:=h;have dJ:i=bE.length:=az3
  subst dJ;rw[as2];obtain⟨⟨E,G⟩,al,aW⟩:=Ic (x:=bE.flatten) (p:=(1,0)) ⟨aw1,aw1⟩;have cC: -9223372036854775808<=65536*(oI bE.flatten (1,0)).2/\65536*(oI bE.flatten (1,0)).2<=9223372036854775807:=aw8
  refine⟨cC,?_⟩;have cF: -9223372036854775808<=65536*(oI bE.flatten (1,0)).2+(oI bE.flatten (1,0)).1/\65536*(oI bE.flatten (1,0)).2+(oI bE.flatten (1,0)).1<=9223372036854775807:=aw8
  exact⟨cF,bc⟩
end
section
abbrev vA (c d:Nat) (R:Int) (es:List (aa .str×aa .aL)):ay:=[(c,.cells [.d (.int .i64 R),.mp d]),(d,.map .str .aL es)]
def iI (es:List (aa .str×aa .aL)) (k:aA0):Option Nat:=(bY es (k:aa .str)).getD (cL .aL)
theorem NZ (R:Int) (es:List (aa .str×aa .aL)) (name:aA0) (b:Nat) (h:iI es name=some b):Fn Tryz.prog 136 [ah 1001,bQ name] (vA 1001 1002 R es) [] (.cb [Rj (some b),dp 0]) (vA 1001 1002 R es):=by
 refine aT [] Tryz.func136 ?_;refine⟨fun ea h'=>?_,fun h'=>?_⟩
 .exact ej bq rfl ⟨h,rfl,trivial⟩
 .exfalso;have:iI es name=none:=h';rw[h] at this
  cases this
theorem Wj (R:Int) (es:List (aa .str×aa .aL)) (name:aA0) (h:iI es name=none):Fn Tryz.prog 136 [ah 1001,bQ name] (vA 1001 1002 R es) [] (.cb [mZ,dp 40]) (vA 1001 1002 R es):=by
 refine aT [] Tryz.func136 ?_;refine⟨fun ea h'=>?_,fun h'=>?_⟩
 .exfalso;have:iI es name=some ea:=h';rw[h] at this
  cases this
 .exact bc
theorem ame (R:Int) (h:0<=R):Fn Tryz.prog 28 [ac R] [] [1001,1002] (.cb [.one (.ptr 1001 0),dp 0]) (vA 1001 1002 R []):=by
 refine aT [] Tryz.func28 ?_;refine⟨fun E=>?_,fun E=>?_⟩
 .simp at E;omega
 exact⟨rfl,rfl,_,_,_,(ab.aV 9 1001 rfl).trans (ab.aV 7 1002 rfl),rfl,az,az,rfl⟩
theorem amf (R:Int) (es:List (aa .str×aa .aL)) (fr to:aA0) (b:Nat) (ap:to.length<=4294967296) (h:g4 to=true) (hn:iI es fr=some b):Fn Tryz.prog 185 [ah 1001,bQ fr,bQ to] (vA 1001 1002 R es) [] (ac 0) (vA 1001 1002 R (dw (gR es (fr:aa .str)) (to:aa .str) (some b:Option Nat))):=by
 refine aT [] Tryz.func185 ?_;refine ak (qN _ ap) ⟨fun E=>?_,fun E=>?_⟩
 .rw[h] at E;cases E
 refine ak (NZ R es fr b hn) ⟨fun G=>?_,fun G=>?_⟩
 .exact absurd G aw1
 exact⟨trivial,bc⟩
end
section
abbrev N0 (c d q:Nat) (R:Int) (es:List (aa .str×aa .aL)) (L:List (Nat×bg)):ay:=[(c,.cells [.d (.int .i64 R),.mp d]),(d,.map .str .aL es),(q,.aF (.bw L))]
theorem amg (R:Int) (es:List (aa .str×aa .aL)) (L:List (Nat×bg)) (name:aA0) (n:Int) (ap:name.length<=4294967296) (E:g4 name=true) (G:(pz n&&decide (0<=R))=true) (aW:iI es name=none) (bG:es.length < 16):
  cA Tryz.prog 183 [ah 1001,bQ name,ac n] (N0 1001 1002 1003 R es L) [] (fun b:Nat=>.cb [Rj (some b),dp 0]) (fun b=>N0 1001 1002 1003 R (dw es (name:aa .str) (some b:Option Nat)) ((b,hi ⟨n,R,[],[],[]⟩)::L)):=by
 refine hQ [8] Tryz.func183 ?_;refine ak (Fn.aV [(1001,2001)] (alR n R G)) <| ak (qN _ ap) ⟨fun af=>?_,fun af=>?_⟩
 .rw[E] at af;cases af
 refine⟨fun ao=>?_,fun ao=>?_⟩
 .exact absurd ao aw1
 refine⟨fun ea bm=>?_,fun bm=>?_⟩
 .exfalso;have:iI es name=some ea:=bm;rw[aW] at this
  cases this
 refine⟨fun c6=>?_,fun c6=>?_⟩
 .exfalso;simp at c6;omega
 refine bk.eH (c5.name 8 2001 rfl rfl) fun b=>?_
 exact br [] (bq) ⟨trivial,b,_,_,_,ab.put 1003 2001 aw1 rfl rfl,rfl,az,az,rfl⟩
end
section
abbrev hX:=List (aa ai×aa g8)
def r' (x:aa g8):Prop:=List.length (α:=UInt8) x=16
theorem r'.wf {x:aa g8} (h:r' x):oS g8 x:=⟨h,fun _ _=>trivial⟩
def q0 (dZ:List Int):Nat->List (aa py)->hX->hX
 |_,[],s=>s
 |k,w::l,s=>q0 dZ (k+1) l (match dZ.contains (k:Int) with
  |true=>dw s w.1 w.2
  |false=>s)
theorem Wk (dZ:List Int) (w:aa py): ∀(l:List (aa py)) (k:Nat) (s:hX),q0 dZ k (l++[w]) s=match dZ.contains ((k+l.length:Nat):Int) with
  |true=>dw (q0 dZ k l s) w.1 w.2
  |false=>q0 dZ k l s
 | [],k,s=>rfl
 |v::l,k,s=>by
  rw[List.cons_append,q0,Wk dZ w l (k+1)];rw[show k+1+l.length=k+(v::l).length by simp;omega];rfl
def bX.k7 (m:bX) (dZ:List Int):bX:=let s:=q0 dZ 0 m.e6 m.l8;{m with l8:=s,bH:=s,e6:=[]}
theorem amh (dZ:List Int) (k:Int) (ap:dZ.length<=4294967296):Fn Tryz.prog 177 [ac k,ah 1001] [(1001,.cells [.d (.cf ai dZ)])] [] (fk (dZ.contains k)) [(1001,.cells [.d (.cf ai dZ)])]:=by
 refine aT [] Tryz.func177 ?_;exact ak (alW dZ k ap) bc
abbrev ami (m:bX) (dZ:List Int) (k:Nat):aX:=[(0,ah 1001),(4,.c (.one (.cY 177 [.p 3 0]))),(11,eX 1004),(12,ac (m.e6.length:Nat)),(13,ac (k:Nat))]
abbrev amj (m:bX) (dZ:List Int) (s:hX):ay:=iV 1001 1002 1003 1004 {m with l8:=s}++[(3,.cells [.d (.cf ai dZ)])]
theorem amk (m:bX) (dZ:List Int) (Z:dZ.length<=4294967296) (ap:m.e6.length<=4294967296) (hw: ∀w,w∈m.e6->r' w.2):
  Fn Tryz.prog 129 [ah 1001,bv ai dZ] (iV 1001 1002 1003 1004 m) [2001,2002] gV (iV 1001 1002 2001 2002 (m.k7 dZ)):=by
 refine aT [] Tryz.func129 ?_;refine⟨rfl,dG [] (X:=Nat) (ami m dZ) (fun k=>amj m dZ (q0 dZ 0 (m.e6.take k) m.l8)) (fun k=>k<=m.e6.length) (fun k=>m.e6.length - k) 0 (aq9 _) ?_ ?_⟩
 .exact ab.sub az az
 intro k b';refine⟨fun h=>?_,fun h=>?_⟩
 .have fc:k < m.e6.length:=by
   have h:decide ((k:Int) < (m.e6.length:Int))=true:=h;simpa using h
  have ny:=hw _ (as3 fc)
  have r6:q0 dZ 0 (m.e6.take (k+1)) m.l8=match dZ.contains (k:Int) with
    |true=>dw (q0 dZ 0 (m.e6.take k) m.l8) (m.e6[k]).1 (m.e6[k]).2
    |false=>q0 dZ 0 (m.e6.take k) m.l8:=by
   rw[at7 fc,Wk,ar3,Nat.min_eq_left aw0,Nat.zero_add]
  refine⟨⟨aw0,by show(k:Int) < (m.e6.length:Nat);omega⟩,m.e6[k],iR (n:=k) fc,rfl,ak (Fn.aV [(1001,3)] (amh dZ (k:Nat) Z)) ⟨fun G=>?_,fun G=>?_⟩⟩
  .rw[G] at r6;refine⟨(m.e6[k]).2,⟨ny.wf,rfl⟩,rfl,aw0,k+1,aw0,aw0,ab.sub az ⟨rfl,?_,rfl,rfl,rfl,trivial⟩⟩;rw[r6];rfl
  .rw[G] at r6;refine⟨aw0,k+1,aw0,aw0,ab.sub az ⟨rfl,?_,rfl,rfl,rfl,trivial⟩⟩;rw[r6];rfl
 .have h:decide ((k:Int) < (m.e6.length:Int))=false:=h;have fc:k=m.e6.length:=az3
  subst fc;rw[as2];exact ak (Fn.aV [(1001,1002)] (Wb (q0 dZ 0 m.e6 m.l8))) ⟨_,_,_,ab.wc 1001 4 2002 259 py rfl rfl rfl,rfl,trivial,az,rfl⟩
theorem Wl (m:bX) (dZ:List Int) (Z:dZ.length<=4294967296) (ap:m.e6.length<=4294967296) (hw: ∀w,w∈m.e6->r' w.2):
  Fn Tryz.prog 129 [ah 1001,bv ai dZ] [(1001,.aF (hi m))] [] gV [(1001,.aF (hi (m.k7 dZ)))]:=
 NU (aI:=[]) (aN:=[]) [(2001,1003),(2002,1004)] (amk m dZ Z ap hw) ⟨rfl,rfl,rfl,rfl⟩ rfl rfl
end
section
theorem aml (a b:Int):(fN ai (a:aa ai) (b:aa ai)=true)↔a=b:=by
 show zu a b=true↔a=b;unfold zu;exact decide_eq_true_iff
theorem N1 {α lT:Type} {f:α->lT}: ∀{l:List α},(l.map f).Nodup-> ∀{p q:α},p∈l->q∈l->f p=f q->p=q
 | [],_,_,_,h,_,_=>by cases h
 |a::l,h,p,q,ae,aP,e=>by
  rw[ar8,at0] at h;rcases aq7.1 ae with ae |ae <;>rcases aq7.1 aP with aP |aP
  .rw[ae,aP]
  .exact absurd (by rw[<-ae,e];exact as0 aP) h.1
  .exact absurd (by rw[<-aP,<-e];exact as0 ae) h.1
  .exact N1 h.2 ae aP e
end
section
def bX.Id (m:bX) (n:Int):bX:=⟨n,m.R,m.bH.filter fun p=>decide ((show Int from p.1) < n),m.bH.filter fun p=>decide ((show Int from p.1) < n),[]⟩
def sa {aJ:bA} (es:List (aa ai×aa aJ)):List Int:=es.map fun p=>(show Int from p.1)
def D6 (s:hX) (a:Int):aa g8:=(bY s (a:aa ai)).getD (cL g8)
def iW (s:hX) (a:Int):aA0:=D6 s a
def pA (s:hX) (a:Int) (k:Nat):aA0:=(List.range k).flatMap fun i=>iW s (a+(i:Nat))
def w6 (s:hX):Prop:= ∀p∈s,r' p.2
theorem Wm {aH aJ:bA} {k:aa aH} {x:aa aJ}: ∀{l:List (aa aH×aa aJ)},bY l k=some x-> ∃p∈l,p.2=x
 | [],h=>by cases h
 |p::l,h=>by
  unfold bY at h
  split at h
  .injection h with h
   exact⟨p,ar4 ..,h⟩
  .obtain⟨q,aP,e⟩:=Wm h;exact⟨q,aq6 _ aP,e⟩
theorem Wn {s:hX} (h:w6 s) (a:Int):r' (D6 s a):=by
 unfold D6
 cases e:bY s (a:aa ai) with
 |none=>exact at1
 |some x=>
  obtain⟨p,ae,e⟩:=Wm e;rw[<-e];exact h p ae
theorem Wo (s:hX) (a:Int) (k:Nat):pA s a (k+1)=pA s a k++iW s (a+(k:Nat)):=by
 unfold pA;rw[List.range_succ,List.flatMap_append];simp
theorem Ie {s:hX} (h:w6 s) (a:Int): ∀k,(pA s a k).length=16*k
 |0=>rfl
 |k+1=>by
  have e:(iW s (a+(k:Nat))).length=16:=Wn h _;rw[Wo,aq5,Ie h a k];omega
abbrev Wp (at_ a1:Int) (k r:Nat):aX:=[(0,ah 1001),(1,ac at_),(2,ac a1),(8,eX r),(20,ac a1),(21,ac (k:Nat))]
abbrev Wq (m:bX) (r:Nat) (x:aA0):ay:=iV 1001 1002 1003 1004 m++[(r,.row 5 .u8 x)]
theorem amm (m:bX) (at_ a1:Int) (h:0<=a1) (aG:m.kM at_ a1=true) (E:0<=m.n) (G:m.n<=4096) (hw:w6 m.bH):Fn Tryz.prog 235 [ah 1001,ac at_,ac a1] [(1001,.aF (hi m))] [] (.cb [.one (.d (.cf .u8 (pA m.bH at_ a1.toNat))),dp 0]) [(1001,.aF (hi m))]:=by
 refine D5 (aI:=[]) (aN:=[]) (bb:=[]) ?_ rfl rfl;refine aT [] Tryz.func235 ?_;refine⟨fun E=>?_,fun _=>?_⟩
 .have E:a1 < 0:=gd E;omega
 refine ak (NT m at_ a1 h E G) ?_;rw[aG];refine cX ?_;simp only[bX.kM,vj,as1] at aG;obtain⟨⟨o2,o3⟩,u6⟩:=aG;refine dG [] (X:=Nat) (fun k=>Wp at_ a1 k 2003) (fun k=>Wq m 2003 (pA m.bH at_ k)) (fun k=>(k:Int)<=a1) (fun k=>a1.toNat - k) 0 h ?_ ?_
 .exact ab.trans (ab.nil 8 2003 5 .u8 rfl rfl) (ab.sub az az)
 intro k Z;refine⟨fun J=>?_,fun J=>?_⟩
 .have b':(k:Int) < a1:=gd J;have ny:=Wn hw (at_+(k:Nat));have bZ:=Ie hw at_ k;refine⟨aw0,rfl,D6 m.bH (at_+(k:Nat)),⟨ny.wf,rfl⟩,?_⟩
  have af:(pA m.bH at_ k).length+(iW m.bH (at_+(k:Nat))).length<=4294967296:=by
   have:(iW m.bH (at_+(k:Nat))).length=16:=ny;omega
  refine⟨af,rfl,aw0,k+1,aw0,aw0,ab.trans (ab.sub (K':=Wp at_ a1 (k+1) 34) (B':=Wq m 34 (pA m.bH at_ (k+1))) az ⟨rfl,rfl,rfl,rfl,?_,trivial⟩) (ab.aV 34 2003 rfl)⟩;rw[Wo];rfl
 .have b':k=a1.toNat:=by
   have: ¬(k:Int) < a1:=mu J;omega
  subst b';exact⟨_,_,_,ab.d3 2003 rfl,rfl,az,az,rfl⟩
end
section
def If (b:aA0) (k:Nat):aA0:=List.take 16 ((b.take ((((k:Nat):Int)+1)*16).toNat).drop (((k:Nat):Int)*16).toNat)
def tb (b:aA0) (k:Nat):aa g8:=If b k
theorem N2 {b:aA0} {k:Nat} (h:16*(k+1)<=b.length):r' (tb b k):=by
 show(List.take 16 ((b.take _).drop _)).length=16;rw[ar3,au3,ar3];omega
theorem amn (b:aA0) (k:Nat):If b k=(b.drop (16*k)).take 16:=by
 unfold If;rw[show((((k:Nat):Int)+1)*16).toNat=16*k+16 by omega,show(((k:Nat):Int)*16).toNat=16*k by omega,List.drop_take,List.take_take]
 congr 1
 omega
abbrev Ig (a:Int) (x:aa g8):aa py:=(a,x)
def yT (at_:Int) (b:aA0) (s:hX):Nat->hX
 |0=>s
 |k+1=>dw (yT at_ b s k) (at_+(k:Nat):Int) (tb b k)
def w7 (at_:Int) (b:aA0) (l:List (aa py)):Nat->List (aa py)
 |0=>l
 |k+1=>w7 at_ b l k++[Ig (at_+(k:Nat)) (tb b k)]
theorem N3 (at_:Int) (b:aA0) (l:List (aa py)): ∀k,(w7 at_ b l k).length=l.length+k
 |0=>rfl
 |k+1=>by rw[w7,aq5,N3];simp;omega
def l9 (s:hX) (at_:Int):Nat->Nat
 |0=>0
 |k+1=>match(bY s (at_+(k:Nat):Int)).isSome with
  |true=>l9 s at_ k
  |false=>l9 s at_ k+1
theorem Wr (s:hX) (at_:Int): ∀k,l9 s at_ k<=k
 |0=>aq4 _
 |k+1=>by
  have:=Wr s at_ k;unfold l9
  split <;>omega
def bX.sb (m:bX) (at_:Int) (k:Nat):Bool:=decide (m.R < (m.bH.length+l9 m.bH at_ k:Nat))&&decide (0 < l9 m.bH at_ k)
def bX.Ih (m:bX) (at_:Int) (b:aA0):bX:={m with bH:=yT at_ b m.bH (b.length/16),e6:=w7 at_ b m.e6 (b.length/16)}
def vB (b:aA0):Bool:=decide (b.length=0)|| !decide (b.length % 16=0)
abbrev amo (m:bX) (at_:Int) (b:aA0) (k:Nat):aX:=[(0,ah 1001),(1,ac at_),(2,bv .u8 b),(7,ac (b.length/16:Nat)),(8,ac (m.bH.length+l9 m.bH at_ k:Nat)),(35,ac (b.length/16:Nat)),(36,ac (k:Nat))]
abbrev N4 (m:bX) (at_:Int) (b:aA0) (k:Nat):aX:=[(0,ah 1001),(1,ac at_),(2,bv .u8 b),(7,ac (b.length/16:Nat)),(67,ac (b.length/16:Nat)),(68,ac (k:Nat))]
abbrev N5 (m:bX) (at_:Int) (b:aA0) (k r:Nat):ay:=iV 1001 1002 1003 r {m with bH:=yT at_ b m.bH k,e6:=w7 at_ b m.e6 k}
theorem N6 (b:aA0):vB b=(decide ((b.length:Int)=0)|| !decide ((b.length:Int) % 16=0)):=by
 have af:decide (b.length=0)=decide ((b.length:Int)=0):=by rw[Bool.eq_iff_iff,decide_eq_true_iff,decide_eq_true_iff];omega
 have ao:decide (b.length % 16=0)=decide ((b.length:Int) % 16=0):=by rw[Bool.eq_iff_iff,decide_eq_true_iff,decide_eq_true_iff];omega
 rw[vB,af,ao]
theorem N7 {b:aA0} (ap:b.length<=4294967296):(0<=(b.length:Int)/\(0:Int) < 16)/\(-9223372036854775808<=(b.length:Int)/16/\(b.length:Int)/16<=9223372036854775807)/\(-9223372036854775808<=(b.length:Int) % 16/\(b.length:Int) % 16<=9223372036854775807):=aw8
theorem amp (m:bX) (at_:Int) (b:aA0) (ap:b.length<=4294967296) (h:vB b=true):Fn Tryz.prog 246 [ah 1001,ac at_,bv .u8 b] [(1001,.aF (hi m))] [] (ac 1) [(1001,.aF (hi m))]:=by
 refine D5 (aI:=[]) (aN:=[]) (bb:=[]) ?_ rfl rfl;rw[N6] at h;obtain⟨b0,ca,a3⟩:=N7 ap;refine aT [] Tryz.func246 ?_;refine⟨b0,ca,fun _=>?_,fun E=>?_⟩
 .exact bc
 refine⟨b0,a3,fun _=>?_,fun G=>?_⟩
 .exact bc
 .have E:decide ((b.length:Int)=0)=false:=E;have G:(!decide ((b.length:Int) % 16=0))=false:=G;rw[E,G] at h
  cases h
theorem amq (m:bX) (at_:Int) (b:aA0) (ap:b.length<=4294967296) (h:vB b=false) (aG:m.kM at_ (b.length/16:Nat)=false) (E:0<=m.n) (G:m.n<=4096):Fn Tryz.prog 246 [ah 1001,ac at_,bv .u8 b] [(1001,.aF (hi m))] [] (ac 31) [(1001,.aF (hi m))]:=by
 refine D5 (aI:=[]) (aN:=[]) (bb:=[]) ?_ rfl rfl;rw[N6,Bool.or_eq_false_iff] at h;obtain⟨b0,ca,a3⟩:=N7 ap;refine aT [] Tryz.func246 ?_;refine⟨b0,ca,fun al=>absurd (h.1.symm.trans al) aw1,fun _=>⟨b0,a3,fun al=>absurd (h.2.symm.trans al) aw1,fun _=>ak (NT m at_ (b.length/16:Nat) aw0 E G) ?_⟩⟩;rw[aG];exact d7 bc
theorem amr (m:bX) (at_:Int) (b:aA0) (ap:b.length<=4294967296) (h:vB b=false) (aG:m.kM at_ (b.length/16:Nat)=true) (E:0<=m.n) (G:m.n<=4096) (al:m.bH.length<=4096) (hw:w6 m.bH) (Ii:m.e6.length+b.length<=4294967296):
  Fn Tryz.prog 246 [ah 1001,ac at_,bv .u8 b] (iV 1001 1002 1003 1004 m) [2004] (ac (match m.sb at_ (b.length/16) with |true=>30 |false=>0)) (match m.sb at_ (b.length/16) with |true=>iV 1001 1002 1003 1004 m |false=>iV 1001 1002 1003 2004 (m.Ih at_ b)):=by
 rw[N6,Bool.or_eq_false_iff] at h;obtain⟨b0,ca,a3⟩:=N7 ap;refine aT [] Tryz.func246 ?_;refine⟨b0,ca,fun al=>absurd (h.1.symm.trans al) aw1,fun _=>⟨b0,a3,fun al=>absurd (h.2.symm.trans al) aw1,fun _=>ak (NT m at_ (b.length/16:Nat) aw0 E G) ?_⟩⟩;rw[aG];refine cX ?_;simp only[bX.kM,vj,as1] at aG;obtain⟨⟨o2,o3⟩,u6⟩:=aG;refine ak (Wc m) ?_;show bk _ _ _ _ _ _ _;have bJ:((b.length:Int)/16)=((b.length/16:Nat):Int):=aw8
 have LW:=Wr m.bH at_;refine dG [] (X:=Nat) (amo m at_ b) (fun k=>iV 1001 1002 1003 1004 m) (fun k=>k<=b.length/16) (fun k=>b.length/16 - k) 0 (aq9 _) ?_ ?_
 .exact ab.sub ⟨rfl,rfl,rfl,bJ,rfl,bJ,rfl,trivial⟩ az
 intro k Z;refine⟨fun J=>?_,fun J=>?_⟩
 .have b':(k:Int) < (b.length/16:Nat):=gd J;have yI:=LW k;refine⟨aw0,rfl,?_⟩
  have ax:l9 m.bH at_ (k+1)=match(bY m.bH (at_+(k:Nat):Int)).isSome with
    |true=>l9 m.bH at_ k
    |false=>l9 m.bH at_ k+1:=rfl
  refine⟨fun aW=>?_,fun aW=>?_⟩
  .have aW:(bY m.bH (at_+(k:Nat):Int)).isSome=false:=by
    have aW:(!(bY m.bH (at_+(k:Nat):Int)).isSome)=true:=aW;simpa using aW
   rw[aW] at ax;have ax:l9 m.bH at_ (k+1)=l9 m.bH at_ k+1:=ax;refine⟨aw0,aw0,k+1,aw0,aw0,ab.sub ⟨rfl,rfl,rfl,rfl,?_,rfl,rfl,trivial⟩ az⟩;show _=_;rw[ax];omega
  .have aW:(bY m.bH (at_+(k:Nat):Int)).isSome=true:=by
    have aW:(!(bY m.bH (at_+(k:Nat):Int)).isSome)=false:=aW;simpa using aW
   rw[aW] at ax;refine⟨aw0,k+1,aw0,aw0,ab.sub ⟨rfl,rfl,rfl,rfl,?_,rfl,rfl,trivial⟩ az⟩;show _=_;rw[ax]
 .have b':k=b.length/16:=by
   have: ¬(k:Int) < (b.length/16:Nat):=mu J;omega
  subst b';have yI:=LW (b.length/16);refine⟨fun cJ=>?NO,fun cJ=>?NP⟩
  case' NO=>
   have cJ:decide (m.R < (m.bH.length+l9 m.bH at_ (b.length/16):Nat))=true:=cJ;refine ak (Wc m) ?_;refine⟨fun cG=>?ams,fun cG=>?amt⟩
  case ams=>
   have cG:decide (((m.bH.length:Nat):Int) < (m.bH.length+l9 m.bH at_ (b.length/16):Nat))=true:=cG
   have hf:m.sb at_ (b.length/16)=true:=by
    have av:0 < l9 m.bH at_ (b.length/16):=by have:=gd cG;omega
    rw[bX.sb,cJ,ar6 av];rfl
   rw[hf];exact bc
  case' amt=>
   have cG:decide (((m.bH.length:Nat):Int) < (m.bH.length+l9 m.bH at_ (b.length/16):Nat))=false:=cG
   have hf:m.sb at_ (b.length/16)=false:=by
    have av: ¬0 < l9 m.bH at_ (b.length/16):=by have:=mu cG;omega
    rw[bX.sb,cJ,at3 av];rfl
   clear cJ cG
  case' NP=>
   have cJ:decide (m.R < (m.bH.length+l9 m.bH at_ (b.length/16):Nat))=false:=cJ
   have hf:m.sb at_ (b.length/16)=false:=by
    rw[bX.sb,cJ];rfl
   clear cJ
  all_goals
   rw[hf];refine dG [] (X:=Nat) (N4 m at_ b) (fun k=>N5 m at_ b k 2004) (fun k=>k<=b.length/16) (fun k=>b.length/16 - k) 0 (aq9 _) ?_ ?_
   .exact ab.trans (cw (N4 m at_ b 0) (N5 m at_ b 0 1004)) (ab.aV 1004 2004 rfl)
   intro k Z;refine⟨fun J=>?_,fun J=>?_⟩
   .have b':(k:Int) < (b.length/16:Nat):=gd J;have ny:r' (tb b k):=N2 aw0;have lq:=N3 at_ b m.e6 k;have cC: -9223372036854775808<=(k:Int)*16/\(k:Int)*16<=9223372036854775807:=aw8
    have cF: -9223372036854775808<=(k:Int)+1/\(k:Int)+1<=9223372036854775807:=aw8
    have dD: -9223372036854775808<=((k:Int)+1)*16/\((k:Int)+1)*16<=9223372036854775807:=aw8
    have fm:0<=(k:Int)*16/\(k:Int)*16<=((k:Int)+1)*16/\((k:Int)+1)*16<=(b.length:Nat):=aw8
    refine⟨cC,cF,dD,fm,?_⟩
    have x0:0 < 16/\16<=((b.take (((k:Int)+1)*16).toNat).drop ((k:Int)*16).toNat).length:=by
     rw[au3,ar3];omega
    refine⟨x0,rfl,?_⟩;have wo: -9223372036854775808<=at_+(k:Nat)/\at_+(k:Nat)<=9223372036854775807:=aw8
    refine⟨wo,tb b k,⟨ny.wf,rfl⟩,rfl,wo,rfl,Ig (at_+(k:Nat)) (tb b k),⟨⟨trivial,ny.wf⟩,rfl⟩,?_⟩
    have x1:(w7 at_ b m.e6 k).length+ [Ig (at_+(k:Nat)) (tb b k)].length<=4294967296:=by
     rw[lq];simp only[au1,List.length_nil];omega
    exact⟨x1,rfl,rfl,aw0,k+1,aw0,aw0,ab.trans (cw (N4 m at_ b (k+1)) (N5 m at_ b (k+1) 99)) (ab.aV 99 2004 rfl)⟩
   .have b':k=b.length/16:=by
     have: ¬(k:Int) < (b.length/16:Nat):=mu J;omega
    subst b';exact bc
def bX.write (m:bX) (at_:Int) (b:aA0):bX×Int:=match vB b with
 |true=>(m,1)
 |false=>match m.kM at_ (b.length/16:Nat) with
  |false=>(m,31)
  |true=>match m.sb at_ (b.length/16) with
   |true=>(m,30)
   |false=>(m.Ih at_ b,0)
theorem amu (m:bX) (at_:Int) (b:aA0) (ap:b.length<=1073741824) (E:0<=m.n) (G:m.n<=4096) (al:m.bH.length<=4096) (hw:w6 m.bH) (Ii:m.e6.length<=1073741824):
  Fn Tryz.prog 246 [ah 1001,ac at_,bv .u8 b] [(1001,.aF (hi m))] [] (ac (m.write at_ b).2) [(1001,.aF (hi (m.write at_ b).1))]:=by
 unfold bX.write
 cases af:vB b with
 |true=>exact amp m at_ b aw0 af
 |false=>
  simp only
  cases ao:m.kM at_ (b.length/16:Nat) with
  |false=>exact amq m at_ b aw0 af ao E G
  |true=>
   simp only;have h:=amr m at_ b aw0 af ao E G al hw aw0
   cases bm:m.sb at_ (b.length/16) with
   |true=>rw[bm] at h;exact D5 (aI:=[]) (aN:=[]) (bb:=[2004]) h rfl rfl
   |false=>rw[bm] at h;exact NU (aI:=[]) (aN:=[]) (bb:=[2004]) [(2004,1004)] h ⟨rfl,rfl,rfl,rfl⟩ rfl rfl
end
section
abbrev dV:=List (Nat×bX)
def e0 (L:dV):List (Nat×bg):=L.map fun p=>(p.1,hi p.2)
def hY:dV->Nat->Option bX
 | [],_=>none
 |p::L,b=>if p.1=b then some p.2 else hY L b
def hj:dV->Nat->bX->dV
 | [],_,_=>[]
 |p::L,b,m=>if p.1=b then(p.1,m)::L else p::hj L b m
theorem Ws (b:Nat): ∀L:dV,eB (e0 L) b=(hY L b).map hi
 | []=>rfl
 |p::L=>by
  show(if p.1=b then some (hi p.2) else eB (e0 L) b)=_;unfold hY
  split
  .rfl
  .exact Ws b L
theorem Wt (b:Nat) (m:bX): ∀L:dV,ff (e0 L) b (hi m)=e0 (hj L b m)
 | []=>rfl
 |p::L=>by
  show(if p.1=b then(p.1,hi m)::e0 L else(p.1,hi p.2)::ff (e0 L) b (hi m))=_;unfold hj
  split
  .rfl
  .rw[Wt b m L];rfl
abbrev nN (c d q:Nat) (R:Int) (es:List (aa .str×aa .aL)) (L:dV):ay:=N0 c d q R es (e0 L)
theorem Bi {f:FuncId} {args:List aO} {res:aO} {m gx:bX} {L:dV} {b:Nat} (h:Fn Tryz.prog f (ah 1001::args) [(1001,.aF (hi m))] [] res [(1001,.aF (hi gx))]) (cH:hY L b=some m)
  (E:(args.all fun v=> !v.has 1001)=true) (G:(!res.has 1001)=true):Fn Tryz.prog f (c8 b::args) [(1003,.aF (.bw (e0 L)))] [] res [(1003,.aF (.bw (e0 (hj L b gx))))]:=by
 have:=(cA.bw (c:=1001) (q:=1003) (b:=b) (args:=args) (aI:=[]) (bb:=[]) (X:=Unit) (res:=fun _=>res) (aN:=fun _=>[]) (o:=hi m) (o':=fun _=>hi gx) (L:=e0 L) h.x (by rw[Ws,cH];rfl) E ⟨rfl,rfl⟩ rfl (fun _=>G)).fn;rw[Wt] at this;exact this
theorem amv (R:Int) (es:List (aa .str×aa .aL)) (name:aA0):Fn Tryz.prog 182 [ah 1001,bQ name] (vA 1001 1002 R es) [] (ac (match iI es name with |some _=>0 |none=>40)) (vA 1001 1002 R (gR es (name:aa .str))):=by
 cases h:iI es name with
 |some b=>
  refine aT [] Tryz.func182 ?_;exact ak (NZ R es name b h) bc
 |none=>
  refine aT [] Tryz.func182 ?_;exact ak (Wj R es name h) bc
abbrev amw:bA:=.bK ai (.bK ai (.bK ai (.bK (.b4 .u8) (.b4 ai))))
abbrev yU:=aa amw
abbrev Bj (o:yU):Int:=o.1
abbrev Ij (o:yU):Int:=o.2.1
abbrev Bk (o:yU):Int:=o.2.2.1
abbrev Wu (o:yU):aA0:=o.2.2.2.1
abbrev amx (o:yU):List Int:=o.2.2.2.2
structure ma (n:Int) (s:hX):Prop where
 gF:(sa s).Nodup
 rg: ∀k∈sa s,0<=k/\k < n
 wf:w6 s
structure fe (m:bX):Prop where
 kL:0<=m.n
 cM:m.n<=4096
 bH:ma m.n m.bH
 l8:ma m.n m.l8
 Ik: ∀w∈m.e6,0<=(show Int from w.1)/\(show Int from w.1) < m.n
 Bl: ∀w∈m.e6,r' w.2
def nf (k:Int) (p:aa ai×aa g8):Bool:=fN ai (k:aa ai) p.1
def yV (k:Int) (x:aa g8):aa ai×aa g8:=(k,x)
def D7 (p:aa ai×aa g8):Int:=p.1
def tc (s:hX) (k:Int) (x:aa g8):hX:=dw s (k:aa ai) x
theorem Il (k:Int) (x:aa g8):tc [] k x=[yV k x]:=rfl
theorem Bm (p:aa ai×aa g8) (l:hX) (k:Int) (x:aa g8):tc (p::l) k x=match nf k p with |true=>yV k x::l |false=>p::tc l k x:=rfl
theorem td {k:Int} {p:aa ai×aa g8}:nf k p=true↔k=D7 p:=aml _ _
theorem vC (p:aa ai×aa g8) (l:hX):sa (p::l)=D7 p::sa l:=rfl
theorem N8 (k:Int) (x:aa g8):D7 (yV k x)=k:=rfl
theorem N9 {k:Int} {x:aa g8} {j:Int}: ∀{s:hX},j∈sa (tc s k x)↔j=k\/j∈sa s
 | []=>by rw[Il,vC,N8,aq7]
 |p::s=>by
  rw[Bm]
  cases e:nf k p with
  |true=>
   rw[vC,vC,N8,<-td.1 e];simp
  |false=>
   simp only;rw[vC,vC,aq7,aq7,N9];constructor
   .rintro(h |h |h)
    .exact .inr (.inl h)
    .exact .inl h
    .exact .inr (.inr h)
   .rintro(h |h |h)
    .exact .inr (.inl h)
    .exact .inl h
    .exact .inr (.inr h)
theorem Wv {k:Int} {x:aa g8}: ∀{s:hX},(sa s).Nodup->(sa (tc s k x)).Nodup
 | [],_=>by rw[Il,vC];exact at0.2 ⟨fun h=>ax0,au7⟩
 |p::s,h=>by
  rw[vC,at0] at h;rw[Bm]
  cases e:nf k p with
  |true=>
   simp only;rw[vC,N8,td.1 e];exact at0.2 h
  |false=>
   have e:k≠D7 p:=fun bj=>by rw[td.2 bj] at e;cases e
   simp only;rw[vC];refine at0.2 ⟨fun aw=>?_,Wv h.2⟩;rcases N9.1 aw with bj |bj
   .exact e bj.symm
   .exact h.1 bj
theorem Ww {k:Int} {x:aa g8} (hx:r' x): ∀{s:hX},w6 s->w6 (tc s k x)
 | [],_=>fun p ae=>by
  rw[Il] at ae;rcases aq7.1 ae with e |e
  .rw[e];exact hx
  .cases e
 |q::s,h=>fun p ae=>by
  rw[Bm] at ae
  split at ae
  .rcases aq7.1 ae with rfl |ae
   .exact hx
   .exact h p (aq6 _ ae)
  .rcases aq7.1 ae with rfl |ae
   .exact h _ (ar4 ..)
   .exact Ww hx (fun p ae=>h p (aq6 _ ae)) p ae
theorem ma.put {n:Int} {s:hX} (h:ma n s) {k:Int} {x:aa g8} (av:0<=k) (E:k < n) (hx:r' x):ma n (dw s (k:aa ai) x):=
 ⟨Wv h.gF,fun j V=>by
  rcases N9.1 V with rfl |V
  .exact⟨av,E⟩
  .exact h.rg j V,Ww hx h.wf⟩
theorem ma.filter {n:Int} {s:hX} (h:ma n s) (n':Int):ma n' (s.filter fun p=>decide ((show Int from p.1) < n')):=
 ⟨h.gF.sublist (List.filter_sublist.map _),fun k Z=>by
  obtain⟨p,ae,rfl⟩:=as5.1 Z;obtain⟨ae,H⟩:=av0.1 ae;exact⟨(h.rg _ (as0 ae)).1,gd H⟩,fun p ae=>h.wf p (av0.1 ae).1⟩
theorem ma.nil (n:Int):ma n []:=⟨au7,fun k h=>ax0,fun p h=>ax0⟩
theorem Im: ∀(n:Nat) (l:List Int),l.Nodup->(∀k∈l,0<=k/\k < n)->l.length<=n
 |0,[],_,_=>aq4 _
 |0,k::l,_,h=>by have:=h k (ar4 ..);omega
 |n+1,l,hn,h=>by
  by_cases aw:(n:Int)∈l
  .have E:=Im n (l.erase (n:Int)) (hn.erase _) fun k Z=>by
    have fc:=(List.Nodup.mem_erase_iff hn).1 Z;have:=h k fc.2;have:=fc.1;omega
   rw[List.length_erase_of_mem aw] at E;omega
  .have:=Im n l hn fun k Z=>by
    have:=h k Z;have:k≠n:=fun e=>aw (e▸Z)
    omega
   omega
theorem ma.len {n:Int} {s:hX} (h:ma n s) (E:n<=4096):s.length<=4096:=by
 have:=Im 4096 (sa s) h.gF fun k Z=>by have:=h.rg k Z;omega
 rwa[show(sa s).length=s.length from ar7 _] at this
theorem fe.new {n R:Int} (h:pz n=true):fe ⟨n,R,[],[],[]⟩:=by
 simp[pz] at h;exact⟨h.1,h.2,ma.nil _,ma.nil _,fun w hw=>(by cases hw),fun w hw=>(by cases hw)⟩
theorem fe.oH {m:bX} (h:fe m):fe m.oH:=⟨h.kL,h.cM,h.bH,h.bH,fun w hw=>(by cases hw),fun w hw=>(by cases hw)⟩
theorem N' {n:Int} {dZ:List Int}: ∀{l:List (aa py)} {k:Nat} {s:hX},(∀w∈l,0<=(show Int from w.1)/\(show Int from w.1) < n)->(∀w∈l,r' w.2)->ma n s->ma n (q0 dZ k l s)
 | [],_,_,_,_,h=>h
 |w::l,k,s,E,G,h=>by
  unfold q0;refine N' (fun v aA=>E v (aq6 _ aA)) (fun v aA=>G v (aq6 _ aA)) ?_
  split
  .exact h.put (E w (ar4 ..)).1 (E w (ar4 ..)).2 (G w (ar4 ..))
  .exact h
theorem fe.k7 {m:bX} (h:fe m) (dZ:List Int):fe (m.k7 dZ):=
 ⟨h.kL,h.cM,N' h.Ik h.Bl h.l8,N' h.Ik h.Bl h.l8,fun w hw=>(by cases hw),fun w hw=>(by cases hw)⟩
theorem fe.Id {m:bX} (h:fe m) {n:Int} (hn:pz n=true):fe (m.Id n):=by
 simp[pz] at hn;exact⟨hn.1,hn.2,h.bH.filter n,h.bH.filter n,fun w hw=>(by cases hw),fun w hw=>(by cases hw)⟩
theorem fe.R {m:bX} (h:fe m) (r:Int):fe {m with R:=r}:=⟨h.kL,h.cM,h.bH,h.l8,h.Ik,h.Bl⟩
theorem Oa {n at_:Int} {b:aA0} (av:0<=at_) {s:hX} (h:ma n s): ∀k:Nat,at_+k<=n->16*k<=b.length->ma n (yT at_ b s k)
 |0,_,_=>h
 |k+1,E,G=>(Oa av h k aw0 aw0).put aw0 aw0 (N2 G)
theorem Ob {at_:Int} {b:aA0} {l:List (aa py)} {w:aa py}: ∀k:Nat,w∈w7 at_ b l k->w∈l\/ ∃i,i < k/\w=Ig (at_+(i:Nat)) (tb b i)
 |0,h=>.inl h
 |k+1,h=>by
  rcases as4.1 h with h |h
  .rcases Ob k h with h |⟨i,aG,e⟩
   .exact .inl h
   .exact .inr ⟨i,aw0,e⟩
  .rw[ar5] at h;exact .inr ⟨k,aw0,h⟩
theorem fe.write {m:bX} (h:fe m) (at_:Int) (b:aA0):fe (m.write at_ b).1:=by
 unfold bX.write
 split
 .exact h
 .split
  .exact h
  .rename_i aG;simp only[bX.kM,vj,as1] at aG;obtain⟨⟨o2,o3⟩,u6⟩:=aG
   split
   .exact h
   .refine⟨h.kL,h.cM,Oa o2 h.bH _ (by show at_+_<=m.n;omega) aw0,h.l8,fun w hw=>?_,fun w hw=>?_⟩
    .rcases Ob _ hw with hw |⟨i,aG,rfl⟩
     .exact h.Ik w hw
     .show 0<=at_+(i:Nat)/\at_+(i:Nat) < m.n;omega
    .rcases Ob _ hw with hw |⟨i,aG,rfl⟩
     .exact h.Bl w hw
     .exact N2 aw0
def bX.op (m:bX) (o:yU):bX×aA0×Int:=
 if Bj o=0 then((m.write (Ij o) (Wu o)).1,[],(m.write (Ij o) (Wu o)).2)
 else if Bj o=1 then(if Bk o < 0 then(m,[],1) else match m.kM (Ij o) (Bk o) with
  |true=>(m,pA m.bH (Ij o) (Bk o).toNat,0)
  |false=>(m,[],31))
 else if Bj o=2 then(m.oH,[],0)
 else if Bj o=3 then(m.k7 (amx o),[],0)
 else if Bj o=4 then(match pz (Bk o) with
  |true=>(m.Id (Bk o),[],0)
  |false=>(m,[],1))
 else if Bj o=5 then({m with R:=max (Bk o) 0},[],0)
 else(m,[],0)
theorem fe.op {m:bX} (h:fe m) (o:yU):fe (m.op o).1:=by
 unfold bX.op
 split
 .exact h.write _ _
 split
 .split
  .exact h
  .split <;>exact h
 split
 .exact h.oH
 split
 .exact h.k7 _
 split
 .split
  .rename_i e;exact h.Id e
  .exact h
 split
 .exact h.R _
 .exact h
end
section
abbrev q1 (bF:Nat):aa .fn:=((242,[bF]):Nat×aA1)
abbrev oJ (bF a b:Nat):aa .fn:=((245,[bF,a,b]):Nat×aA1)
abbrev Oc (d:Nat) (e:Int) (eV:List (aa .fn)) (L:List (Nat×bg)):ay:=[(1001,.cells [.ptr 1002 0]),(1002,.cells [.own d,.d (.int .i64 e)]),(d,.row 128 .fn eV),(1005,.aF (.bw L))]
abbrev amy (e:Int) (eV:List (aa .fn)) (L:List (Nat×bg)):ay:=Oc 1006 e eV L
theorem Wx (at_:Int) (x:aA0) (bF:Nat) (e:Int) (eV:List (aa .fn)) (L:List (Nat×bg)) (ap:eV.length<=1000000):
  cA Tryz.prog 244 [ac at_,bv .u8 x,ah 1001,c8 bF] (amy e eV L) [2006] (X:=Nat×Nat) (fun _=>gV) (fun g=>Oc 2006 e (eV++[oJ bF g.1 g.2]) ((g.2,ho (.cf .u8 x))::(g.1,ho (.int .i64 at_))::L)):=by
 refine hQ [1] Tryz.func244 ?_;refine⟨rfl,rfl,bk.eH (c5.box 4 4 1005 rfl rfl aw1 rfl) fun eA=>bk.eH (c5.box 5 5 1005 rfl rfl aw1 rfl) fun fp=>br [] (bq) ?_⟩;have O:eV.length+1<=4294967296:=aw8
 exact⟨O,rfl,rfl,(eA,fp),_,_,_,(cw [] (Oc 13 e (eV++[oJ bF eA fp]) ((fp,ho (.cf .u8 x))::(eA,ho (.int .i64 at_))::L))).trans (ab.aV 13 2006 rfl),rfl,trivial,az,rfl⟩
theorem amz {bF s:Nat} {m:bX} {L:List (Nat×bg)} {M:dV} (cH:eB L bF=some (ho (.aL (some s)))) (ar:hY M s=some m):
  Fn Tryz.prog 242 [c8 bF] [(1005,.aF (.bw L)),(1003,.aF (.bw (e0 M)))] [] (ac 0) [(1005,.aF (.bw L)),(1003,.aF (.bw (e0 (hj M s m.oH))))]:=by
 refine aT [] Tryz.func242 ?_;refine⟨_,_,fun N=>CF (q:=1005) rfl Tryz.underlying198 rfl rfl rfl cH N,rfl,?_⟩;exact ak (Bi (alU m) ar rfl rfl) bc
theorem amA {bF s eA fp:Nat} {at_:Int} {x:aA0} {m:bX} {L:List (Nat×bg)} {M:dV} (G:eB L bF=some (ho (.aL (some s)))) (aW:eB L eA=some (ho (.int .i64 at_))) (bG:eB L fp=some (ho (.cf .u8 x)))
  (ar:hY M s=some m) (ag:fe m) (hx:x.length<=1073741824) (ap:m.e6.length<=1073741824):
  Fn Tryz.prog 245 [c8 bF,c8 eA,c8 fp] [(1005,.aF (.bw L)),(1003,.aF (.bw (e0 M)))] [] (ac (m.write at_ x).2) [(1005,.aF (.bw L)),(1003,.aF (.bw (e0 (hj M s (m.write at_ x).1))))]:=by
 refine aT [] Tryz.func245 ?_;refine⟨_,_,fun N=>CF (q:=1005) rfl Tryz.underlying198 rfl rfl rfl G N,rfl,?_⟩;refine⟨_,_,fun N=>CF (q:=1005) rfl Tryz.underlying3 rfl rfl rfl aW N,rfl,?_⟩;refine⟨_,_,fun N=>CF (q:=1005) rfl Tryz.underlying31 rfl rfl rfl bG N,rfl,?_⟩;exact ak (Bi (amu m at_ x hx ag.kL ag.cM (ag.bH.len ag.cM) ag.bH.wf ap) ar rfl rfl) bc
end
section
theorem amB (x:aA0) (hx:x.length<=4294967296):Fn Tryz.prog 169 [bv .u8 x] [] [2001] (eX 2001) (qc 2001 x):=by
 refine aT [1] Tryz.func169 ?_;refine bk.gz ee aw3 ?_;refine⟨_,Rw rfl rfl Tryz.underlying31,fun v e h=>?_⟩;obtain⟨b,O,rfl,rfl⟩:=h
 cases b
 .refine⟨rfl,?_⟩;have ap:0+x.length<=4294967296:=aw8
  exact⟨ap,rfl,_,_,_,ab.aV 7 2001 rfl,rfl,rfl,az,rfl⟩
 .have O:=O rfl;subst O;exact⟨_,_,_,ab.nil 2 2001 5 .u8 rfl rfl,rfl,rfl,az,rfl⟩
def sc (x:aA0):aA0:=x++eq (jw x).toNat 4
theorem Wy (x:aA0) (hx:x.length<=1000000):Fn Tryz.prog 247 [bv .u8 x] [] [] (bv .u8 (sc x)) []:=by
 have h:=NX x;refine aT [2] Tryz.func247 ?_;refine ak (amB x aw0) ?_;refine ak (NY [x] aw2 (fun y aD=>by rw[ar5] at aD;rw[aD];omega)) ?_;have af:([x]:List aA0).flatten=x:=by simp
 rw[af];refine ak (Fn.arg (Fn.aV [(1001,2001),(1002,3002)] (yL x 4 [(jw x).toNat] (by unfold W;omega) (fun n hn=>by rw[ar5] at hn;rw[hn];omega) aw2 aw0)) ⟨rfl,rfl,DX h.1,trivial⟩) <| br [] (ab.d3 3002 rfl) ?_;exact ej bq rfl (show x++eP 4 [(jw x).toNat]=sc x by unfold sc eP;simp)
def dv (n:Int):Int:=max (n - 2) 0/2
theorem In (n:Int) (av:0<=n) (E:n<=4096):Fn Tryz.prog 239 [ac n] [] [] (ac (dv n)) []:=by
 refine aT [] Tryz.func239 ?_;have cC: -9223372036854775808<=n - 2/\n - 2<=9223372036854775807:=aw8
 refine⟨cC,?_⟩;have cF:0<=max (n - 2) 0/\(0:Int) < 2:=aw8
 have dD: -9223372036854775808<=max (n - 2) 0/2/\max (n - 2) 0/2<=9223372036854775807:=aw8
 exact⟨cF,dD,bc⟩
theorem Od (n:Int) (av:0<=n) (E:n<=4096):Fn Tryz.prog 237 [ac n] [] [] (ac (dv n*16)) []:=by
 refine aT [] Tryz.func237 ?_;refine ak (In n av E) ?_;have dD: -9223372036854775808<=dv n*16/\dv n*16<=9223372036854775807:=by unfold dv;omega
 exact⟨dD,bc⟩
end
end Go.Proofs.YtkfbeijmgggkmaaGreat
