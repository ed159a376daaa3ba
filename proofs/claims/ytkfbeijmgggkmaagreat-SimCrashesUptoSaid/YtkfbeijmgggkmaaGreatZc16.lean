/-
A part of the proof of this claim: lemmas, with no condition beyond what each says.
-/
import Derived.Test.YtkfbeijmgggkmaaGreatZc15
set_option linter.unusedVariables false
set_option linter.unusedSimpArgs false
set_option maxRecDepth 10000
set_option maxHeartbeats 4000000
namespace Go.Proofs.YtkfbeijmgggkmaaGreat
open Go.RowKit Go.Proofs Tryz
section
theorem Uv {ρ:Go.Shelf.Ren} (L:SlLaysW.n5 Tryz.prog ρ) (f3:jz Tryz.prog (ρ.f 5)=true) {aH aJ:bA} (es:List (aa aH×aa aJ)):
  Fn Tryz.prog (ρ.f 5) [.c (.one (.mp 1001))] [(1001,.map aH aJ es)] [2001] (.c (.one (.mp 2001))) [(1001,.map aH aJ es),(2001,.map aH aJ es)]:=by
 refine⟨f3,fun ρ F I w bW a2 c0 bd eG bZ dx=>?_⟩
 match bW,bZ with
 | [v],_=>
  obtain rfl:v= .map (some (ρ 1001).bh):=dx 0 _ v rfl rfl;obtain⟨tR,bU,bV,O,aw,dy⟩:=c0 1001 _ rfl;refine(AnyW.maps_Clone L _ _ _ w O).mono ?_;rintro e w' ⟨rfl,rfl⟩;have gN:Below w.heap.size w (w.alloc (.map (List.toArray bU) bV)):=(Below.refl _ _).alloc (aq4 _) _;have aZ:cj I w I (w.alloc (.map (List.toArray bU) bV)):=fun b fW=>⟨fW,gN.block b (a2 b fW)⟩
  have bx:=me O;refine⟨_,dc ρ 2001 ⟨w.heap.size,none,0,0⟩,dc F 2001 (fun b=>b=w.heap.size),rfl,cP.oR gN,fun c J=>dm _ _ (fun e=>J (by simp[e])),I,aZ,fun b fW=>⟨Nat.lt_of_lt_of_le (a2 b fW) gN.size,.inl fW⟩,?_,?_,?_,?_⟩
  .intro c ch J;rw[cd] at J
   split at J
   .rename_i dX;subst dX;injection J with J;subst J
    rw[dm _ _ aw1,dm _ _ aw1];exact⟨tR,bU,bV,(gN.block _ bx).trans O,aw.mono aZ,dy⟩
   .rw[cd] at J
    split at J
    .rename_i dX;subst dX;injection J with J;subst J
     rw[dd,dd];exact⟨fun b=>Iff.rfl,bU,bV,heap_alloc_new w _,aw.mono aZ,dy⟩
    .simp[aj] at J
  .intro c ch J b p';rw[cd] at J
   split at J
   .rename_i dX;subst dX;rw[dm _ _ aw1] at p';have:=bd 1001 _ rfl b p';exact⟨Nat.lt_of_lt_of_le this.1 gN.size,this.2,.inl ⟨1001,_,rfl,p'⟩⟩
   .rw[cd] at J
    split at J
    .rename_i dX;subst dX;rw[dd] at p';subst p';exact⟨aw2,fun fW=>by have:=a2 _ fW;omega,.inr (aq4 _)⟩
    .simp[aj] at J
  .intro c b7 ch ch' b J cQ a6 gb gU
   have key: ∀c ch,aj [(1001,ba.map aH aJ es),(2001,ba.map aH aJ es)] c=some ch->c=1001\/c=2001:=fun c ch J=>by
    rw[cd] at J
    split at J
    .rename_i h;exact .inl h.symm
    .rw[cd] at J
     split at J
     .rename_i h;exact .inr h.symm
     .simp[aj] at J
   rcases key c ch J with rfl |rfl <;>rcases key b7 ch' cQ with rfl |rfl
   .exact a6 rfl
   .rw[dm _ _ aw1] at gb;rw[dd] at gU;have:=(bd 1001 _ rfl b gb).1;omega
   .rw[dm _ _ aw1] at gU;rw[dd] at gb;have:=(bd 1001 _ rfl b gU).1;omega
   .exact a6 rfl
  .show Value.map (some w.heap.size)=Value.map (some (dc ρ 2001 _ 2001).bh);rw[dd]
end
section
def mB (s g:Int):Int:=(s+g - 1)/g
theorem yE {s g:Int} (ax:0<=s/\s<=4096) (aY:1<=g/\g<=64):0<=mB s g/\mB s g<=4160:=by
 unfold mB;have dN:(0:Int)<=(s+g - 1)/g:=av9 aw0 aw0;have dS:(s+g - 1)/g<=s+g - 1:=Int.ediv_le_self _ aw0;omega
theorem Hx (s g:Int) (es:List (aa ai×aa ai)) (ax:0<=s/\s<=4096) (aY:1<=g/\g<=64):Fn Tryz.prog 97 [ah 1001] (iC s g es) [] (ac (mB s g)) (iC s g es):=by
 have kW:=yE ax aY;unfold mB at kW⊢;have dK:c3 (s+g):=aw8
 have lr:c3 (s+g - 1):=aw8
 have sQ:c3 ((s+g - 1)/g):=aw8
 have n6:(0:Int)<=s+g - 1/\0 < g:=aw8
 refine aT [] Tryz.func97 ?_;exact⟨dK,lr,n6,sQ,eM aw3,bc⟩
def vo (es:List (aa ai×aa ai)) (f:Int):Nat->List (aa ai×aa ai)
 |0=>es
 |n+1=>gR (aH:=ai) (aJ:=ai) (vo es f n) (f+(n:Int))
theorem ajm (s g:Int) (es:List (aa ai×aa ai)) (k:Int):Fn Tryz.prog 209 [ac k,ah 3001] (r5 s g es) [] gV (r5 s g (gR (aH:=ai) (aJ:=ai) es k)):=by
 refine aT [] Tryz.func209 ?_;exact bc
abbrev ajn (eg k:Int):aX:=[(4,ac eg),(5,.c (.one (.cY 209 [.p 3001 0]))),(13,ac k)]
theorem ajo (s g:Int) (es:List (aa ai×aa ai)) (fr bN gi eg:Int) (E:0<=bN) (G:0<=fr) (al:bN<=s) (aW:fr<=s - bN) (ax:s<=4096) (bG:0<=gi) (fP:eg<=1000000):Fn Tryz.prog 156 [ah 1001,ac fr,ac bN,ac gi,ac eg,.c (.one (.cY 209 [.p 3001 0]))] (r5 s g es) [] (ac 0) (r5 s g (vo es gi (eg - gi).toNat)):=by
 have m1:c3 (s - bN):=aw8
 refine aT [] Tryz.func156 ?_;refine⟨fun h=>absurd (gd h) aw0,fun _=>⟨fun h=>absurd (gd h) aw0,fun _=>⟨fun h=>absurd (gd h) aw0,fun _=>⟨m1,fun h=>absurd (gd h) aw0,fun _=>dG [6] (X:=Nat) (fun j=>ajn eg (gi+(j:Int))) (fun j=>r5 s g (vo es gi j)) (fun j=>j<=(eg - gi).toNat) (fun j=>(eg - gi).toNat - j) 0 (aq9 _) ?_ ?_⟩⟩⟩⟩
 .exact ab.sub ⟨rfl,rfl,(show gi=gi+((0:Nat):Int) by omega),trivial⟩ az
 intro j V;have V:j<=(eg - gi).toNat:=V;refine⟨fun J=>?_,fun J=>?_⟩
 .have J:decide (gi+(j:Int) < eg)=true:=J;have J:=gd J;exact br [] (bq) <| ak (ajm s g (vo es gi j) (gi+(j:Int))) ⟨aw0,j+1,aw0,aw0,ab.sub ⟨rfl,rfl,(show gi+(j:Int)+1=gi+((j+1:Nat):Int) by omega),trivial⟩ az⟩
 .have J:decide (gi+(j:Int) < eg)=false:=J;have J:=mu J;have fB:j=(eg - gi).toNat:=aw8
  subst fB;exact bc
def DN (s g:Int) (es:List (aa ai×aa ai)):List (aa ai×aa ai):=vo es 0 (mB s g).toNat
abbrev ajp (s eg:Int):aX:=[(1,ac 0),(2,ac s),(3,ah 3),(7,ac eg)]
theorem ajq (s g:Int) (es:List (aa ai×aa ai)) (ax:0<=s/\s<=4096) (aY:1<=g/\g<=64):Fn Tryz.prog 172 [ah 1001,ac 0,ac s] (iC s g es) [] (ac 0) (iC s g (DN s g es)):=by
 have kW:=yE ax aY;have rY:=Hx s g es ax aY;have d6:(0:Int)<=(0+s)/g:=av9 aw0 aw0;have cV:(0+s)/g<=0+s:=Int.ediv_le_self _ aw0;have cM:c3 (0+s):=aw8
 have dK:(0:Int)<=0+s/\0 < g:=aw8
 have lr:c3 ((0+s)/g):=aw8
 have sQ:c3 (0+g):=aw8
 have n5:c3 (0+g - 1):=aw8
 have n6:(0:Int)<=0+g - 1/\0 < g:=aw8
 have bJ:(0+g - 1)/g=0:=Int.ediv_eq_zero_of_lt aw0 aw0;have n7:c3 ((0+g - 1)/g):=aw8
 have U:=ajo s g es 0 s 0 (mB s g) ax.1 (Int.le_refl 0) (Int.le_refl s) aw0 ax.2 (Int.le_refl 0) aw0;have aP:(mB s g - 0).toNat=(mB s g).toNat:=by rw[Int.sub_zero]
 rw[aP] at U;unfold DN;generalize mB s g=eg at*;refine aT [4] Tryz.func172 ?_;refine⟨rfl,cM,dK,lr,cM,?_⟩;exact⟨fun _=>ak rY <| br [] (cw (ajp s eg) (DE s g es)) ⟨sQ,n5,n6,n7,ak (Fn.arg (args:=[ah 1001,ac 0,ac s,ac ((0+g - 1)/g),ac eg,.c (.one (.cY 209 [.p 3001 0]))]) U ⟨rfl,rfl,rfl,bJ,rfl,rfl,trivial⟩ |> Fn.aV [(3001,3)]) ⟨eM aw3,bc⟩⟩,fun h=>absurd (show decide (0+s=s)=false from h) (by rw[Int.zero_add];simp)⟩
def oy (g:Int) (es:List (aa ai×aa ai)) (n:Nat):List Int:=(List.range n).map fun k=>if m' g es k=true then 1 else 0
theorem ajr (g:Int) (es:List (aa ai×aa ai)) (n:Nat):oy g es (n+1)=oy g es n++[if m' g es n=true then 1 else 0]:=by
 unfold oy;rw[List.range_succ,at9];rfl
theorem M1 (g:Int) (es:List (aa ai×aa ai)) (n:Nat):(oy g es n).length=n:=by
 unfold oy;rw[ar7,List.length_range]
def qR (s g:Int) (es:List (aa ai×aa ai)):List dU:=nI (oy g es s.toNat)
abbrev ajs (s:Int) (j:Nat):aX:=[(0,ah 1001),(3,eX 5002),(9,ac s),(10,ac (j:Nat))]
abbrev Uw (s:Int) (j:Nat):aX:=[(0,ah 1001),(3,eX 19),(9,ac s),(10,ac (j:Nat))]
abbrev ajt (s g:Int) (es:List (aa ai×aa ai)) (x:List Int):ay:=iC s g es++[(5002,.row 3 ai x)]
abbrev Ux (s g:Int) (es:List (aa ai×aa ai)) (x:List Int):ay:=iC s g es++[(19,.row 3 ai x)]
theorem aju (s g:Int) (es:List (aa ai×aa ai)) (ax:0<=s/\s<=4096) (aY:1<=g):Fn Tryz.prog 174 [ah 1001] (iC s g es) [] (bv hV (qR s g es)) (iC s g es):=by
 have ajv:=ai7 (oy g es s.toNat) (by rw[M1];omega);unfold qR;refine aT [] Tryz.func174 ?_;refine dG [] (X:=Nat) (fun j=>ajs s j) (fun j=>ajt s g es (oy g es j)) (fun j=>j<=s.toNat) (fun j=>s.toNat - j) 0 (aq9 _) ?_ ?_
 .exact(ab.nil 3 5002 3 ai rfl rfl).trans (ab.sub az az)
 intro j V;have V:j<=s.toNat:=V;have sy:=ajr g es j;have ve:=M1 g es j;refine⟨fun J=>?_,fun J=>?_⟩
 .have J:decide ((j:Int) < s)=true:=J;have eS:(j:Int) < s:=gd J;have aG:=T7 s g es j aY eS ax.2;have m:List.length (α:=Int) (oy g es j)+1<=4294967296:=aw8
  have m2:c3 ((j:Int)+1):=aw8
  generalize oy g es j=ks at*;generalize m' g es j=b at*;refine ak aG ⟨fun O=>?_,fun O=>?_⟩
  .have O:b=true:=O;subst O;have sy:oy g es (j+1)=ks++[1]:=sy;exact⟨m,rfl,m2,j+1,(by show j+1<=s.toNat;omega),(by show s.toNat - (j+1) < s.toNat - j;omega),ab.trans (ab.sub (K':=Uw s (j+1)) (B':=Ux s g es (oy g es (j+1))) az ⟨rfl,rfl,congrArg (fun aB:List Int=>some (ba.row 3 ai aB)) sy.symm,trivial⟩) <| (ab.aV 19 5002 rfl).trans (ab.sub az az)⟩
  .have O:b=false:=O;subst O;have sy:oy g es (j+1)=ks++[0]:=sy;exact⟨m,rfl,m2,j+1,(by show j+1<=s.toNat;omega),(by show s.toNat - (j+1) < s.toNat - j;omega),ab.trans (ab.sub (K':=Uw s (j+1)) (B':=Ux s g es (oy g es (j+1))) az ⟨rfl,rfl,congrArg (fun aB:List Int=>some (ba.row 3 ai aB)) sy.symm,trivial⟩) <| (ab.aV 19 5002 rfl).trans (ab.sub az az)⟩
 .have J:decide ((j:Int) < s)=false:=J;have fB:j=s.toNat:=ax9
  subst fB;exact ak (Fn.own (d:=5002) (e:=3) (u:=ai) (xs:=oy g es s.toNat) (args:=[eX 5002]) ajv rfl) bc
theorem Uy (es:List (aa ai×aa ai)):Fn Tryz.prog 96 [.c (.one (.mp 1001))] [(1001,.map ai ai es)] [2001] (.c (.one (.mp 2001))) [(1001,.map ai ai es),(2001,.map ai ai es)]:=
 Uv adB aw3 es
theorem ajw (s g:Int) (es:List (aa ai×aa ai)):Fn Tryz.prog 54 [ah 1001] (iC s g es) [2001,2002] (ah 2001) (iC s g es++[(2001,.cells [.d (.int .i64 s),.d (.int .i64 g),.mp 2002]),(2002,.map ai ai es)]):=by
 refine aT [] Tryz.func54 ?_;exact ak (Fn.aV [(1001,1002),(2001,2002)] (Uy es)) ⟨rfl,eM aw3,_,_,_,ab.aV 17 2001 rfl,rfl,rfl,az,rfl⟩
abbrev M2 (l:List dU) (k:Int):ay:=[(2001,.cells [.d (.cf hV l)]),(2002,.cells [.d (.int .i64 k)])]
abbrev M3 (l:List dU) (k:Int) (o:bg):ay:=[(2001,.cells [.d (.cf hV l)]),(2002,.cells [.d (.int .i64 k)]),(1001,.aF o)]
abbrev Uz (y:Nat) (m:List dU) (i:Nat):aX:=[(0,C7 y),(2,ah 2002),(7,bv hV m),(8,ac (m.length:Nat)),(9,ac (i:Nat))]
theorem ajx (l:List dU) (k:Int):Fn Tryz.prog 173 [bv hV l,ac k] [] [2001,2002] (.c (.one (.cY 210 [.p 2001 0,.p 2002 0]))) (M2 l k):=by
 refine aT [] Tryz.func173 ?_;exact⟨rfl,rfl,_,_,_,(ab.aV 2 2001 rfl).trans (ab.aV 3 2002 rfl),rfl,rfl,az,rfl⟩
theorem ajy (y:Nat) (l:List dU) (k:Int) (ap:l.length<=1000000) (eD: ∀x,x∈l-> -4611686018427387904<=x.2.1/\x.2.1<=4611686018427387903) {X:Type} (f':X->bg) (xs:Nat->X)
  (aD: ∀i (h:i < (ir l).length),(ir l)[i].2.2=k->xU Tryz.prog y [ac (ir l)[i].1,ac (ir l)[i].2.1] [(1001,.aF (f' (xs i)))] (fun _:Unit=>ro true) (fun _=>[(1001,.aF (f' (xs (i+1))))]))
  (a6: ∀i (h:i < (ir l).length),¬(ir l)[i].2.2=k->xs (i+1)=xs i) (e5:(ir l).length<=1000000):
  Fn Tryz.prog 210 [C7 y,ah 2001,ah 2002] (M3 l k (f' (xs 0))) [] (.cb []) [(1001,.aF (f' (xs (ir l).length)))]:=by
 have hn:=ajl l ap eD;generalize ir l=m at*;refine aT [3] Tryz.func210 ?_;refine ak hn <| dG [3] (X:=Nat) (fun i=>Uz y m i) (fun i=>M3 l k (f' (xs i))) (fun i=>i<=m.length) (fun i=>m.length - i) 0 (aq9 _) ?_ ?_
 .exact ab.sub az az
 intro i aG;have aG:i<=m.length:=aG;refine⟨fun J=>?_,fun J=>?_⟩
 .have J:decide ((i:Int) < ((m.length:Nat):Int))=true:=J;have dJ:i < m.length:=ay2
  have aY:=iR (n:=i) dJ;have aD:=aD i dJ;have a6:=a6 i dJ;generalize m[i]=x at*;have d6:(0:Int)<=(i:Int):=aw8
  have cV:c3 ((i:Int)+1):=aw8
  refine⟨d6,x,aY,rfl,bk.le (cw ((5,ah 5)::Uz y m i) ((5,.cells (ai1 x))::M3 l k (f' (xs i)))) <| bk.gz ee aw3 ⟨fun Z=>?_,fun Z=>?_⟩⟩
  .have Z:x.2.2=k:=gd Z;refine⟨Unit,_,_,_,aD Z,az,fun _=>rfl,fun _=>?_⟩;exact⟨cV,i+1,dJ,(by show m.length - (i+1) < m.length - i;omega),ab.sub az az⟩
  .have Z: ¬x.2.2=k:=mu Z;have a6:=a6 Z;exact⟨cV,i+1,dJ,(by show m.length - (i+1) < m.length - i;omega),ab.sub az ⟨rfl,rfl,congrArg (fun aB=>some (ba.aF (f' aB))) a6.symm,trivial⟩⟩
 .have J:decide ((i:Int) < ((m.length:Nat):Int))=false:=J;have ox:i=m.length:=ax9
  subst ox;exact bc
theorem ajz {ks:List Int} (Z:ks.length<=65536):(nI ks).length<=65536/\ ∀x,x∈nI ks-> -4611686018427387904<=x.2.1/\x.2.1<=4611686018427387903:=by
 have h:=Uq ks;refine⟨by have:=h.len;omega,fun x hx=>?_⟩;have:=h.Hu x hx;omega
theorem ajA (l:List dU) (fr bN:Int):(vn l fr bN).length<=l.length:=by
 unfold vn
 split
 .have:=Ut l fr bN l.length;unfold r7 at this
  rwa[as2] at this
 .exact aq9 _
def wT (s g:Int) (es:List (aa ai×aa ai)) (x:dU):List (aa ai×aa ai):=if x.2.2=1 then nH s g es x.1 x.2.1 else es
def nJ (s g:Int) (es:List (aa ai×aa ai)) (m:List dU) (i:Nat):List (aa ai×aa ai):=(m.take i).foldl (wT s g) es
theorem UA (s g:Int) (es:List (aa ai×aa ai)) {m:List dU} {i:Nat} (h:i < m.length):nJ s g es m (i+1)=wT s g (nJ s g es m i) m[i]:=by
 unfold nJ;rw[List.take_add_one,oj h];show((m.take i)++[m[i]]).foldl _ _=_;rw[av3];rfl
def wU (s g:Int) (es:List (aa ai×aa ai)) (row:List dU):List (aa ai×aa ai):=nJ s g es (ir row) (ir row).length
abbrev Hy (s g:Int) (es:List (aa ai×aa ai)) (bF g2:Int) (eo:List (aa ai×aa ai)):ay:=[(1001,.cells (MG s g)),(1002,.map ai ai es),(3001,.cells [.d (.int .i64 bF),.d (.int .i64 g2),.mp 3002]),(3002,.map ai ai eo)]
abbrev UB (s g:Int) (es:List (aa ai×aa ai)) (bF g2:Int) (eo:List (aa ai×aa ai)):ay:=[(1001,.cells (MG s g)),(1002,.map ai ai es),(2,.cells [.ptr 1001 0]),(3001,.cells [.d (.int .i64 bF),.d (.int .i64 g2),.mp 3002]),(3002,.map ai ai eo)]
theorem ajB (s g:Int) (es:List (aa ai×aa ai)) (bF g2:Int) (eo:List (aa ai×aa ai)) (ax:0<=s/\s<=4096) (aY:1<=g/\g<=64) (fR:0<=bF/\bF<=4096) (s3:1<=g2/\g2<=64) (ajC:bF=s):Fn Tryz.prog 124 [ah 1001,ah 3001] (Hy s g es bF g2 eo) [] (ac 0) (Hy s g (wU s g es (qR bF g2 eo)) bF g2 eo):=by
 have ga:=aju bF g2 eo fR s3.1;have eD:=ajz (ks:=oy g2 eo bF.toNat) (by rw[M1];omega);have eD:(qR bF g2 eo).length<=65536/\ ∀x,x∈qR bF g2 eo->_:=eD;have e5:(ir (qR bF g2 eo)).length<=(qR bF g2 eo).length:=ajA _ _ _;unfold wU;generalize qR bF g2 eo=rw at*;refine aT [] Tryz.func124 ?_;refine⟨rfl,eM aw3,fun J=>absurd (show(!decide (bF=s))=true from J) (by simp[ajC]),fun _=>ak (Fn.aV [(1001,3001),(1002,3002)] ga) <| ak (ajx rw 1) <| bk.le (cw [(22,.c (.one (.cY 210 [.p 2001 0,.p 2002 0]))),(2,ah 2)] (M2 rw 1++UB s g es bF g2 eo)) <| bk.range ee [] (pl:=[23,24]) rfl aw3 aw3 aw3 aw3 [1001,1002,2,3001,3002] _ [(2,ah 2)] (M2 rw 1) (fun e:List (aa ai×aa ai)=>UB s g e bF g2 eo) 1001 es (nJ s g es (ir rw) (ir rw).length) (fun e aE b6=> ∃(i:Nat) (h:i < (ir rw).length),(ir rw)[i].2.2=1/\e=nJ s g es (ir rw) i/\aE=[ac (ir rw)[i].1,ac (ir rw)[i].2.1]/\b6=nJ s g es (ir rw) (i+1)) rfl ax3 rfl rfl ?_ ?_ ?_⟩
 .rintro e aE b6 ⟨i,aG,Z,rfl,rfl,rfl⟩;have sy:=UA s g es aG;have gZ:=MJ s g (nJ s g es (ir rw) i) (ir rw)[i].1 (ir rw)[i].2.1 ax aY;have sy:nJ s g es (ir rw) (i+1)=nH s g (nJ s g es (ir rw) i) (ir rw)[i].1 (ir rw)[i].2.1:=by rw[sy];unfold wT;rw[if_pos Z]
  generalize(ir rw)[i]=x at*;generalize nJ s g es (ir rw) i=af at*;generalize nJ s g es (ir rw) (i+1)=ao at*;subst sy;exact⟨rfl,rfl,rfl,ak gZ ⟨rfl,ab.sub trivial az⟩⟩
 .intro y f' rS aD;exact ajy y rw 1 aw0 eD.2 f' (fun i=>nJ s g es (ir rw) i) (fun i aG Z=>aD _ _ _ ⟨i,aG,Z,rfl,rfl,rfl⟩) (fun i aG Z=>by rw[UA s g es aG];unfold wT;rw[if_neg Z]) aw0
 .exact bc
end
section
abbrev M4 (aJ:bA):=Nat×(aa ai×aa aJ)
def ajD {aJ:bA} (p:M4 aJ):Int:=p.2.1
def gone {aJ:bA} (n:Int) (bH:aA1) (l:List (M4 aJ)):List (M4 aJ):=l.filter fun p=> !(bH.contains p.1&&decide (n<=ajD p))
theorem UC {es:List (aa ai×aa ai)} (h:fb es) (f:Int): ∀n,fb (s1 es f n)
 |0=>h
 |n+1=>fb.put rF (UC h f n)
theorem M5 {s g:Int} {es:List (aa ai×aa ai)} (h:fb es) (fr bN:Int):fb (nH s g es fr bN):=by
 unfold nH
 split
 .exact UC h _ _
 .exact h
theorem Hz {es:List (aa ai×aa ai)} (h:fb es) (f:Int): ∀n,fb (vo es f n)
 |0=>h
 |n+1=>fb.lU (Hz h f n)
theorem UD {s g:Int} {es:List (aa ai×aa ai)} (h:fb es) (m:List dU) (i:Nat):fb (nJ s g es m i):=by
 unfold nJ;generalize m.take i=l
 induction l generalizing es with
 |nil=>exact h
 |cons x l bu=>
  refine bu (es:=wT s g es x) ?_;unfold wT
  split
  .exact M5 h _ _
  .exact h
end
section
open Go.RowKit Go.Proofs Go.Maps Go.Shelf Go.MapKept Tryz
open Go.WideElems (Fit rd rg pl rd_val rd_key rg_of)
theorem ajE (es:List (aa .str×aa .aL)):Fn Tryz.prog 51 [.c (.one (.mp 1001))] [(1001,.map .str .aL es)] [2001] (.c (.one (.cY 95 [.p 2001 0]))) [(2001,.cells [.mp 1001]),(1001,.map .str .aL es)]:=by
 refine aT [] Tryz.func51 ?_;exact⟨rfl,_,_,_,ab.aV 1 2001 rfl,rfl,rfl,az,rfl⟩
theorem ajF (es:List (aa .str×aa .aL)) (hn:(mt es).Nodup) (ap: ∀s∈mt es,s.length<=maxLen) (ax:es.length<=4294967296):
  Fn Tryz.prog 50 [.c (.one (.cY 95 [.p 2001 0]))] [(2001,.cells [.mp 1001]),(1001,.map .str .aL es)] [] (bv .str (nE es)) [(2001,.cells [.mp 1001]),(1001,.map .str .aL es)]:=by
 refine⟨aw3,fun ρ F I w bW a2 c0 bd eG bZ dx=>?_⟩
 match bW,bZ with
 | [v],_=>
  obtain⟨aE,aA,e',r,hD,mv,aC⟩:=dx 0 _ v rfl rfl;have aC:r=[]:=aC;have mv:e'= .pointer (some ⟨(ρ 2001).bh,0,none⟩):=mv;subst aC mv hD aA;obtain⟨_,aE,T,gb,hD⟩:=c0 2001 _ rfl;obtain⟨x,r,hD,hx,aC⟩:=hD;have aC:r=[]:=aC;have hx:x= .map (some (ρ 1001).bh):=hx;subst aC hx hD;obtain⟨_,bU,bV,gU,aw,dy⟩:=c0 1001 _ rfl;have GT:(4294967296:Nat)<=maxLen:=by decide
  obtain⟨ju,dC,cu,pi⟩:=SZ (P:=Tryz.prog) (k:=9) aw3 gU aw dy hn ap aw0;have bx:(ρ 2001).bh < w.heap.size:=me gb
  have vd:SeqGives Fence.wide 2 Tryz.prog 95 #[.pointer (some ⟨(ρ 2001).bh,0,none⟩)] encStr (fun hd=>hd.Perm (strKeys ju)) (Maps.size ju) w:=
   AnyZ.keys_gives (ρ:=RO) {adz with} Fence.wide _ trivial rfl aw0 (ρ 2001).bh (ρ 1001).bh es.length ju w bx (oZ gb rfl) dC
  have J:=AnyZ.sorted_in RM Fence.wide 5 trivial trivial trivial trivial rfl aw0 (S1 _) (enters_of Tryz.func94 aw3 rfl) 95 #[.pointer (some ⟨(ρ 2001).bh,0,none⟩)] trivial (enters_of Tryz.func95 aw3 rfl) _ _ ay6 ay6 _ vd;refine(callsIn_wide.1 J).mono ?_;rintro e w' ⟨v,hd,rfl,au,ga,yn,gN⟩;have aZ:cj I w (fun b=>b < w'.heap.size/\(I b\/w.heap.size<=b)) w':=fun b fW=>⟨⟨Nat.lt_of_lt_of_le (a2 b fW) gN.size,.inl fW⟩,gN.block b (a2 b fW)⟩
  refine⟨v,ρ,F,rfl,cP.oR gN,fun _ _=>rfl,_,aZ,fun b h=>⟨h.1,h.2.imp id .inr⟩,fun c ch J=>Holds.ck aZ (fun b O=>gN.block b (bd c ch J b O).1) gN.size ch (fun _ _=>rfl) (c0 c ch J),fun c ch J b O=>?_,fun c b7 ch ch' b E G=>eG c b7 ch ch' b E G,?_⟩
  .have:=bd c ch J b O;exact⟨Nat.lt_of_lt_of_le this.1 gN.size,fun h=>(by rcases h.2 with h |h;exact this.2 h;omega),.inl ⟨c,ch,J,O⟩⟩
  .have Z:hd.mergeSort (fun x y=>decide (x<=y))=nE es:=Go.mergeSort_of_perm (au.trans pi);rw[Z] at ga;have hB:=fF.sm ga;have ve:hd.length=(nE es).length:=by rw[<-Z,List.length_mergeSort]
   rw[ve] at hB;exact(hB.zs fun i _ aG=>(ga.lt i aG).1).S0 fun b E G=>⟨E,.inr G⟩
structure bf where
 nm:aA0
 ad:Nat
 du:Nat
 on:Bool
 us:Bool
 s:Int
 g:Int
 es:List (aa ai×aa ai)
abbrev jP (e:bf):aa .str×aa .aL:=((e.nm:aa .str),(some e.ad:aa .aL))
abbrev A6 (nm:aA0) (on us:Bool) (du:Nat):List bC:=[.d (.str nm),.d (.bool on),.d (.bool us),.d (.aL (some du))]
def qS (nm:aA0) (on us:Bool) (du:Nat):bg:=bg.ch (.cells (A6 nm on us du)) (fun _=>rfl)
def fv (s g:Int) (es:List (aa ai×aa ai)):bg:=bg.i9 1001 (iC s g es)
def dY (l:List bf):List (aa .str×aa .aL):=l.map jP
abbrev wV (e:bf):Nat×bg:=(e.ad,qS e.nm e.on e.us e.du)
abbrev wW (e:bf):Nat×bg:=(e.du,fv e.s e.g e.es)
def j8 (l:List bf):List (Nat×bg):=l.map wV
def jQ (l:List bf):List (Nat×bg):=l.map wW
abbrev eC (l:List bf):ay:=[(1001,.cells [.mp 1002]),(1002,.map .str .aL (dY l)),(1003,.aF (.bw (j8 l))),(1004,.aF (.bw (jQ l)))]
def c1 (l:List bf) (nm:aA0):Option bf:=l.find? fun e=>decide (e.nm=nm)
theorem wX (d:bf) (L:List bf) (nm:aA0):c1 (d::L) nm=if d.nm=nm then some d else c1 L nm:=by
 unfold c1;rw[List.find?_cons]
 by_cases e:d.nm=nm
 .rw[ar6 e,if_pos e]
 .rw[at3 e,if_neg e]
theorem jR {l:List bf} {nm:aA0} {e:bf} (h:c1 l nm=some e):e∈l/\e.nm=nm:=⟨av2 h,by have:=List.find?_some h;simpa using this⟩
theorem HA (nm:aA0): ∀L:List bf,(bY (aH:=.str) (aJ:=.aL) (dY L) nm).getD (cL .aL)=((c1 L nm).map (·.ad):Option Nat)
 | []=>rfl
 |d::L=>by
  have bu:=HA nm L;show(bY (aH:=.str) (aJ:=.aL) (jP d::dY L) nm).getD (cL .aL)=_;rw[wX];rw[show bY (aH:=.str) (aJ:=.aL) (jP d::dY L) nm=match fN .str (nm:aa .str) (jP d).1 with |true=>some (jP d).2 |false=>bY (aH:=.str) (aJ:=.aL) (dY L) nm from rfl]
  by_cases e:d.nm=nm
  .rw[show fN .str (nm:aa .str) (jP d).1=true from(qB _ _).2 e.symm,if_pos e];rfl
  .rw[show fN .str (nm:aa .str) (jP d).1=false from rG (aH:=.str) qB (fun h=>e h.symm),if_neg e];exact bu
theorem M6 {f:bf->Nat×bg}: ∀{L:List bf},(L.map fun d=>(f d).1).Nodup-> ∀{d:bf},d∈L->eB (L.map f) (f d).1=some (f d).2
 | [],_,d,h=>by cases h
 |e::L,hn,d,h=>by
  rw[ar8] at hn;obtain⟨cM,dK⟩:=at0.1 hn;rw[ar8];unfold eB;rcases aq7.1 h with rfl |h
  .rw[if_pos rfl]
  .rw[if_neg (fun e=>cM (by rw[e];exact as0 (f:=fun d=>(f d).1) h))];exact M6 dK h
theorem M7 {f:bf->Nat×bg} {u:bf->bf}: ∀{L:List bf},(L.map fun d=>(f d).1).Nodup-> ∀{d:bf},d∈L->(f (u d)).1=(f d).1->ff (L.map f) (f d).1 (f (u d)).2=(L.map fun x=>if(f x).1=(f d).1 then u x else x).map f
 | [],_,d,h,_=>by cases h
 |e::L,hn,d,h,Z=>by
  rw[ar8] at hn;obtain⟨cM,dK⟩:=at0.1 hn;rw[ar8,ar8,ar8];unfold ff;rcases aq7.1 h with rfl |h
  .rw[if_pos rfl,if_pos rfl]
   have ajG:(L.map fun x=>if(f x).1=(f d).1 then u x else x)=L:=by
    refine(as7 fun x hx=>?_).trans (List.map_id' L);rw[if_neg fun e=>cM (by rw[<-e];exact as0 (f:=fun d=>(f d).1) hx)]
   rw[ajG]
   congr 1
   exact Prod.ext Z.symm rfl
  .have a6: ¬(f e).1=(f d).1:=fun ao=>cM (by rw[ao];exact as0 (f:=fun d=>(f d).1) h)
   rw[if_neg a6,if_neg a6,M7 dK h Z]
def nb (l:List bf) (a:Nat) (u:bf->bf):List bf:=l.map fun x=>if x.ad=a then u x else x
structure dO (l:List bf):Prop where
 iA:(l.map (·.nm)).Nodup
 lv:(l.map (·.ad)).Nodup
 vp:(l.map (·.du)).Nodup
 ok: ∀e,e∈l->(0<=e.s/\e.s<=4096)/\(1<=e.g/\e.g<=64)/\fb e.es/\e.nm.length<=64
 len:l.length<=8
theorem vq {α lT:Type} {f:α->lT}: ∀{l:List α},(l.map f).Nodup-> ∀{p q:α},p∈l->q∈l->f p=f q->p=q
 | [],_,_,_,h,_,_=>by cases h
 |a::l,h,p,q,ae,aP,e=>by
  rw[ar8,at0] at h;rcases aq7.1 ae with ae |ae <;>rcases aq7.1 aP with aP |aP
  .rw[ae,aP]
  .exact absurd (by rw[<-ae,e];exact as0 aP) h.1
  .exact absurd (by rw[<-aP,<-e];exact as0 ae) h.1
  .exact vq h.2 ae aP e
theorem dO.D {l:List bf} (h:dO l) {e:bf} (U:e∈l):eB (j8 l) e.ad=some (qS e.nm e.on e.us e.du):=M6 (f:=wV) h.lv U
theorem dO.M {l:List bf} (h:dO l) {e:bf} (U:e∈l):eB (jQ l) e.du=some (fv e.s e.g e.es):=M6 (f:=wW) h.vp U
theorem UE {l:List bf} {a:Nat} {u:bf->bf} (E: ∀e,(u e).nm=e.nm) (G: ∀e,(u e).ad=e.ad):dY (nb l a u)=dY l:=by
 unfold dY nb;rw[at8];refine as7 fun x _=>?_
 show jP (if x.ad=a then u x else x)=jP x
 split
 .unfold jP;rw[E,G]
 .rfl
theorem UF {l:List bf} (h:dO l) {e:bf} (U:e∈l) {u:bf->bf} (G:(u e).ad=e.ad):ff (j8 l) e.ad (qS (u e).nm (u e).on (u e).us (u e).du)=j8 (nb l e.ad u):=
 M7 (f:=wV) (u:=u) h.lv U G
theorem UG {l:List bf} (h:dO l) {e:bf} (U:e∈l) {u:bf->bf} (G:(u e).du=e.du):ff (jQ l) e.du (fv (u e).s (u e).g (u e).es)=jQ (nb l e.ad u):=by
 refine(M7 (f:=wW) (u:=u) h.vp U G).trans ?_;unfold jQ nb
 congr 1
 refine as7 fun x hx=>?_
 by_cases J:x.ad=e.ad
 .have:=vq h.lv hx U J;subst this;rw[if_pos rfl,if_pos rfl]
 .rw[if_neg J,if_neg fun ao=>J (by rw[vq h.vp hx U ao])]
theorem ajH {l:List bf} {a:Nat} {u:bf->bf} (E: ∀e,(u e).du=e.du/\(u e).s=e.s/\(u e).g=e.g/\(u e).es=e.es):jQ (nb l a u)=jQ l:=by
 unfold jQ nb;rw[at8];refine as7 fun x _=>?_
 show wW (if x.ad=a then u x else x)=wW x
 split
 .obtain⟨b0,ca,a3,a4⟩:=E x;unfold wW;rw[b0,ca,a3,a4]
 .rfl
theorem dO.dc {l:List bf} (h:dO l) {a:Nat} {u:bf->bf} (E: ∀e,(u e).nm=e.nm/\(u e).ad=e.ad/\(u e).du=e.du) (G: ∀e,e∈l->e.ad=a->(0<=(u e).s/\(u e).s<=4096)/\(1<=(u e).g/\(u e).g<=64)/\fb (u e).es):dO (nb l a u):=by
 have key: ∀{lT:Type} (f:bf->lT),(∀e,f (u e)=f e)->(nb l a u).map f=l.map f:=fun f hf=>by
  unfold nb;rw[at8];refine as7 fun x _=>?_
  show f (if x.ad=a then u x else x)=f x
  split
  .exact hf x
  .rfl
 refine⟨by rw[key _ fun e=>(E e).1];exact h.iA,by rw[key _ fun e=>(E e).2.1];exact h.lv,by rw[key _ fun e=>(E e).2.2];exact h.vp,fun e U=>?_,by unfold nb;rw[ar7];exact h.len⟩;obtain⟨x,hx,rfl⟩:=as5.1 U
 by_cases J:x.ad=a
 .rw[if_pos J];obtain⟨b1,b2,b3⟩:=G x hx J;exact⟨b1,b2,b3,by rw[(E x).1];exact(h.ok x hx).2.2.2⟩
 .rw[if_neg J];exact h.ok x hx
theorem HB {f:FuncId} {args:List aO} {res:aO} {s g s' hq:Int} {es eE:List (aa ai×aa ai)} {M:List (Nat×bg)} {b:Nat} (h:Fn Tryz.prog f (ah 1001::args) (iC s g es) [] res (iC s' hq eE)) (ar:eB M b=some (fv s g es))
  (E:ob 1001 [1002] (ah 1001::args) (iC s g es) [] [] []=true) (G:oc 1001 (mY [1002] [] []) res (iC s' hq eE) []=true) (al:(args.all fun v=> !v.has 1001)=true) (aW:(!res.has 1001)=true):
  Fn Tryz.prog f (c8 b::args) [(1004,.aF (.bw M))] [] res [(1004,.aF (.bw (ff M b (fv s' hq eE))))]:=by
 have J:Fn Tryz.prog f (ah 1001::args) [(1001,.aF (fv s g es))] [] res [(1001,.aF (fv s' hq eE))]:=Fn.close (bp:=iC s g es) (dz:=iC s' hq eE) (aI:=[]) (aN:=[]) [1002] aw9 (fun _ _ _ _ h=>h) (fun _ _ _ _ h=>h) E G;exact(cA.bw (c:=1001) (q:=1004) (b:=b) (args:=args) (aI:=[]) (bb:=[]) (X:=Unit) (res:=fun _=>res) (aN:=fun _=>[]) (o:=fv s g es) (o':=fun _=>fv s' hq eE) (L:=M) J.x ar al ⟨rfl,rfl⟩ rfl (fun _=>aW)).fn
theorem UH:Fn Tryz.prog 29 [] [] [1001,1002,1003,1004] (ah 1001) (eC []):=by
 refine aT [] Tryz.func29 ?_;exact⟨rfl,rfl,_,_,_,ab.trans (ab.aV 3 1001 rfl) (ab.trans (ab.aV 1 1002 rfl) (ab.trans (ab.ll 1003 rfl) (ab.ll 1004 rfl))),rfl,rfl,az,rfl⟩
theorem A7 (l:List bf):mt (dY l)=l.map (·.nm):=by
 unfold mt dY;rw[at8];rfl
def gm (l:List bf):List aA0:=nE (dY l)
theorem HC (l:List bf):(gm l).length=l.length:=by
 unfold gm nE;rw[List.length_mergeSort,A7,ar7]
theorem UI {l:List bf} (h:dO l):Fn Tryz.prog 23 [ah 1001] (eC l) [] (bv .str (gm l)) (eC l):=by
 have Z:(mt (dY l)).Nodup:=by rw[A7];exact h.iA
 have aw: ∀s∈mt (dY l),s.length<=maxLen:=fun s ax=>by
  rw[A7] at ax;obtain⟨d,H,rfl⟩:=as5.1 ax;exact au4 (h.ok d H).2.2.2 aw1
 have ax:(dY l).length<=4294967296:=by unfold dY;rw[ar7];have:=h.len;omega
 refine aT [] Tryz.func23 ?_;exact ak (Fn.aV [(1001,1002),(2001,5001)] (ajE (dY l))) <| ak (Fn.aV [(1001,1002),(2001,5001)] (ajF (dY l) Z aw ax)) bc
theorem DO:(Tryz.prog.info? 4).map (·.size)=some 1:=by kernel_rfl
theorem HD:(Tryz.prog.info? 58).map (·.size)=some 1:=by kernel_rfl
theorem M8 {I:Nat->Prop} {w:World} {b:Bool} {aB:Value} (h:gP I w (.bool b) aB):aB.cells=List.toArray [aB]/\aB.oneCell'=true:=by
 have h:aB= .bool b:=h;subst h;exact⟨rfl,rfl⟩
theorem ajI {I:Nat->Prop} {w:World} {b:Bool} {aB:Value} (h:gP I w (.lit b) aB):aB.cells=List.toArray [aB]/\aB.oneCell'=true:=by
 have h:aB= .bool b:=h;subst h;exact⟨rfl,rfl⟩
theorem ajJ {l:List bf} (h:dO l) {e:bf} (U:e∈l) (on:Bool):Fn Tryz.prog 176 [c8 e.ad,ah 3001] (eC l++[(3001,.cells [.d (.bool on)])]) [] gV (eC (nb l e.ad fun x=>{x with on:=on})++[(3001,.cells [.d (.bool on)])]):=by
 obtain⟨ph,gk,gl⟩:=ki DO;have cp:=h.D U;have pk:=UE (l:=l) (a:=e.ad) (u:=fun x=>{x with on:=on}) (fun _=>rfl) (fun _=>rfl);have sV:=UF h U (u:=fun x=>{x with on:=on}) rfl;have wK:=ajH (l:=l) (a:=e.ad) (u:=fun x=>{x with on:=on}) (fun _=>⟨rfl,rfl,rfl,rfl⟩);refine aT [] Tryz.func176 ?_;refine⟨_,_,fun N=>i' (b:=e.ad) rfl rfl N,rfl,?_⟩;refine⟨_,_,fun N=>jr rfl Tryz.underlying60 rfl rfl gk ax2 rfl N,rfl,?_⟩;refine⟨_,_,fun N=>Ak (q:=1003) (b:=e.ad) (j:=1) (y:=.bool on) (l:=A6 e.nm e.on e.us e.du) (h':=fun _=>rfl) rfl gk gl rfl rfl rfl cp (show 1 < 4 by decide) M8 N,rfl,?_⟩;exact sJ bq rfl trivial ⟨rfl,congrArg (fun e=>some (ba.map .str .aL e)) pk.symm,congrArg (fun e=>some (ba.aF (.bw e))) sV,congrArg (fun e=>some (ba.aF (.bw e))) wK.symm,rfl,trivial⟩ rfl
def oz (x:bf):bf:={x with us:=true,es:=DN x.s x.g x.es}
theorem ajK {l:List bf} (h:dO l) {e:bf} (U:e∈l):Fn Tryz.prog 171 [c8 e.ad] (eC l) [] gV (eC (nb l e.ad oz)):=by
 obtain⟨ph,gk,gl⟩:=ki DO;obtain⟨M9,wY,wZ⟩:=ki HD;obtain⟨ce,cR,er,eQ⟩:=h.ok e U;have cp:=h.D U;have ar:=h.M U;have pk:=UE (l:=l) (a:=e.ad) (u:=oz) (fun _=>rfl) (fun _=>rfl);have sV:=UF h U (u:=oz) rfl;have wK:=UG h U (u:=oz) rfl;have ax:=HB (MI e.s e.g e.es) ar rfl rfl rfl rfl;rw[x4 ar] at ax;have J:=HB (ajq e.s e.g e.es ce cR) ar rfl rfl rfl rfl;refine aT [] Tryz.func171 ?_;refine⟨_,_,fun N=>i' (b:=e.ad) rfl rfl N,rfl,?_⟩;refine⟨_,_,fun N=>jr rfl Tryz.underlying60 rfl rfl wY (by rw[wZ];decide) rfl N,rfl,?_⟩;refine⟨_,_,fun N=>ln (q:=1003) rfl Tryz.underlying58 rfl rfl rfl cp rfl N,rfl,?_⟩;refine⟨_,_,fun N=>i' (b:=e.ad) rfl rfl N,rfl,?_⟩;refine⟨_,_,fun N=>jr rfl Tryz.underlying60 rfl rfl wY (by rw[wZ];decide) rfl N,rfl,?_⟩;refine⟨_,_,fun N=>ln (q:=1003) rfl Tryz.underlying58 rfl rfl rfl cp rfl N,rfl,?_⟩;refine ak ax <| ak J ⟨eM aw3,_,_,fun N=>i' (b:=e.ad) rfl rfl N,rfl,?_⟩;refine⟨_,_,fun N=>jr rfl Tryz.underlying60 rfl rfl gk ax2 rfl N,rfl,?_⟩;refine⟨_,_,fun N=>Ak (q:=1003) (b:=e.ad) (j:=2) (y:=.lit true) (l:=A6 e.nm e.on e.us e.du) (h':=fun _=>rfl) rfl gk gl rfl rfl rfl cp (show 2 < 4 by decide) ajI N,rfl,?_⟩;exact sJ bq rfl trivial ⟨rfl,congrArg (fun e=>some (ba.map .str .aL e)) pk.symm,congrArg (fun e=>some (ba.aF (.bw e))) sV,congrArg (fun e=>some (ba.aF (.bw e))) wK,trivial⟩ rfl
end
section
section
variable {P:Program} {ids:aA1} {K:aX} {B:ay}
theorem ajL {o:Oper} {T:TypeId} {x:Operand} {q b:Nat} {L:List (Nat×bg)} {l:List bC} {h: ∀c,(ba.cells l).has c=false} {d:TypeDesc} {i:TypeInfo} (ag:o.op= .load T x) (ci:P.underlying T=some d) (ga:d.isRow=true) (aG:P.info? T=some i) (aR:i.size=l.length) (hx:a7 K x= .c (.one (.d (.aL (some b)))))
  (aP:aj B q=some (.aF (.bw L))) (cH:eB L b=some (bg.ch (.cells l) h)) (N:Nat):bB P N ids o K B (.c (.agg l)) ⟨[q],[],[]⟩:=by
 have aw:x∈o.op.operands:=aw7
 refine bB.val fun K' B' g1 g2 C ρ F a w ar au=>?_
 have bl:fo (b5 C B' F w) w L (F q):=ar.holds q _ ((g2 q aw2).trans aP);have aA:a.eval x= .pointer (some ⟨b,0,none⟩):=au.ev ((g1 x aw).trans hx);obtain⟨cz,cN,p,ce,cR,er,eQ,uW⟩:=bl.out cH;obtain⟨E,aE,e3,G,al⟩:=eQ;rw[er] at G
 refine⟨.agg (List.toArray aE),Fe (cs:=aE) ag aA ci ga aG (by rw[cc.length _ _ al];exact aR) (fun j v V=>by rw[Nat.zero_add];exact oZ G V),aE,rfl,cc.mono (cj.refl _ _) _ _ (fun c J=>by
  have av:mM c l=false:=h c;rw[av] at J
  cases J) al⟩
end
abbrev iF (c d:Nat) (s g:Int) (es:List (aa ai×aa ai)):ay:=[(c,.cells [.d (.int .i64 s),.d (.int .i64 g),.mp d]),(d,.map ai ai es)]
theorem ajM (s g:Int) (es:List (aa ai×aa ai)):Fn Tryz.prog 54 [ah 3001] (iF 3001 3002 s g es) [1001] (ah 1001) (iF 3001 3002 s g es++[(1001,.aF (fv s g es))]):=by
 refine aT [] Tryz.func54 ?_;exact ak (Fn.aV [(1001,3002),(2001,1002)] (Uy es)) ⟨rfl,eM aw3,_,_,_,ab.trans (ab.aV 17 1001 rfl) (ab.close 1001 (iC s g es) az rfl fun _ _ _ _ h=>h),rfl,rfl,az,rfl⟩
theorem ajN {s g:Int} {es:List (aa ai×aa ai)} {M:List (Nat×bg)} {b:Nat} (ar:eB M b=some (fv s g es)):Fn Tryz.prog 54 [c8 b] [(1004,.aF (.bw M))] [5001,5002] (ah 5001) [(1004,.aF (.bw M)),(5001,.cells [.d (.int .i64 s),.d (.int .i64 g),.mp 5002]),(5002,.map ai ai es)]:=by
 have av:=Fn.aV [(2001,5001),(2002,5002)] (ajw s g es);have J:Fn Tryz.prog 54 [ah 1001] [(1001,.aF (fv s g es))] [5001,5002] (ah 5001) ((1001,.aF (fv s g es))::iF 5001 5002 s g es):=Fn.close (bp:=iC s g es) (dz:=iC s g es) (aI:=[]) (aN:=iF 5001 5002 s g es) [1002] av (fun _ _ _ _ h=>h) (fun _ _ _ _ h=>h) rfl rfl;have:=(cA.bw (c:=1001) (q:=1004) (b:=b) (args:=[]) (aI:=[]) (bb:=[5001,5002]) (X:=Unit) (res:=fun _=>ah 5001) (aN:=fun _=>iF 5001 5002 s g es) (o:=fv s g es) (o':=fun _=>fv s g es) (L:=M) J.x ar rfl ⟨rfl,rfl⟩ rfl (fun _=>rfl)).fn;rw[x4 ar] at this;exact this
end
section
abbrev A8 (b:Nat):aa .aL:=(some b:Option Nat)
theorem fo.w0 {I:Nat->Prop} {w:World} {o:bg} {p:bo} {cz:Nat->Prop} (ag:o.bn I cz w p): ∀{L:List (Nat×bg)} {F:Nat->Prop},fo I w L F->(∀x,cz x-> ¬F x)->fo I w (L++[(p.bh,o)]) (fun x=>cz x\/F x)
 | [],F,h,H=>⟨cz,F,p,fun x=>Iff.rfl,H,rfl,ag,h⟩
 |(a,q)::L,F,⟨o7,qz,r,E,G,al,aW,bG⟩,H=>
  ⟨o7,fun x=>cz x\/qz x,r,fun x=>by
    show(cz x\/F x)↔(o7 x\/(cz x\/qz x));rw[E];constructor
    .intro h;rcases h with h |h |h
     .exact .inr (.inl h)
     .exact .inl h
     .exact .inr (.inr h)
    .intro h;rcases h with h |h |h
     .exact .inr (.inl h)
     .exact .inl h
     .exact .inr (.inr h),
   fun x hx h=>by
    rcases h with h |h
    .exact H x h ((E x).2 (.inl hx))
    .exact G x hx h,
   al,aW,fo.w0 ag bG fun x hx h=>H x hx ((E x).2 (.inr h))⟩
section
variable {P:Program} {ids:aA1} {K:aX} {B:ay}
end
end
section
def yF (oA:Nat->bg) (mS:bg):bg where
 bn:=fun I F w p=> ∃(cz cN:Nat->Prop) (q:bo),(∀x,F x↔cz x\/cN x)/\(∀x,cz x-> ¬cN x)/\(oA q.bh).bn I cz w p/\mS.bn I cN w q
 ck:=fun I F w I' w' p ⟨cz,cN,q,E,G,al,aW⟩ U bd aR=>⟨cz,cN,q,E,G,(oA q.bh).ck _ _ _ _ _ _ al U (fun b O=>bd b ((E b).2 (.inl O))) aR,mS.ck _ _ _ _ _ _ aW U (fun b O=>bd b ((E b).2 (.inr O))) aR⟩
def UJ (aH:bA) (es:List (aa aH×aa .aL)) (key:aa aH) (o:bg) (I F:Nat->Prop) (w:World) (p:bo):Prop:=
 ∃(b9:Nat->Prop) (q:bo),(∀x,F x↔x=p.bh\/b9 x)/\ ¬b9 p.bh/\(∃bU bV,w.heap[p.bh]? =some (.map (List.toArray bU) bV)/\iw I w aH .aL (dw (aH:=aH) (aJ:=.aL) es key (A8 q.bh)) bU/\mg bU bV)/\o.bn I b9 w q
def HE (aH:bA) (es:List (aa aH×aa .aL)) (key:aa aH) (o:bg):bg where
 bn:=UJ aH es key o
 ck:=fun I F w I' w' p ⟨b9,q,E,G,⟨bU,bV,aW,bG,fP⟩,ji⟩ U bd aR=>⟨b9,q,E,G,⟨bU,bV,(bd _ ((E _).2 (.inl rfl))).trans aW,bG.mono U,fP⟩,o.ck _ _ _ _ _ _ ji U (fun b O=>bd b ((E b).2 (.inr O))) aR⟩
section
variable {P:Program} {ids:aA1} {K:aX} {B:ay}
theorem ab.ajO (c:Nat) {ch:ba} (h: ∀c,ch.has c=false) (J:aj B c=some ch):ab ids K B K ((c,.aF (bg.ch ch h))::B):=by
 rintro N C a w ⟨hn,H,ρ,F,ar,au⟩;obtain⟨bP,aZ⟩:=ar.h0 (w':=w) (ch:=.aF (bg.ch ch h)) J (cP.refl _ _) fun I a2=>bg.RC h (Holds.ck (ρ':=ρ) a2 (fun _ _=>rfl) (aq4 _) ch (fun _ _=>rfl) (ar.holds c _ J))
 exact⟨hn,H,ρ,F,bP,au.mono aZ fun _ _ _=>rfl⟩
theorem ajP {o:Oper} {T kt et:TypeId} {x i v:Operand} {c d e:Nat} (ag:o.op= .mapUpdate T x i v) (ci:P.underlying T=some (.map kt et)) {dk:TypeDesc} (kg:P.underlying kt=some dk) {aH:bA} (H:nl aH dk=true)
  (hx:a7 K x= .c (.one (.mp c))) {key:aa aH} (Z:xy aH (a7 K i)=some key) (aA:a7 K v= .c (.one (.ptr d 0))) {es:List (aa aH×aa .aL)} {bj: ∀c,(ba.map aH .aL es).has c=false} {l:List bC} {oA:Nat->bg} {mS:bg}
  (J:aj B c=some (.aF (bg.ch (.map aH .aL es) bj))) (kX:aj B d=some (.cells l)) (gL:aj B e=some (.aF mS)) (a6:c≠d) (UK:c≠e) (ajQ:d≠e)
  (M': ∀(ρ:Nat->bo) (I F:Nat->Prop) (w:World) (p:bo),Holds ρ I F w p (.cells l)->(oA (ρ e).bh).bn I F w p) (N:Nat):bB P N ids o K B .undef ⟨[c,d,e],[],[(d,none),(e,none),(c,some (.aF (HE aH es key (yF oA mS))))]⟩:=by
 have m1:x∈o.op.operands:=aw7
 have m2:i∈o.op.operands:=aw7
 have m3:v∈o.op.operands:=aw7
 rintro K' B' g1 g2 - C a w ⟨hn,mr,ρ,F,ar,au⟩ bx fO Q dq;have cQ:=(g2 c aw2).trans J;have dn:=(g2 d aw2).trans kX;have g0:=(g2 e aw2).trans gL;obtain⟨mT,bU,bV,aW,bG,fP⟩:Holds (fun _=>ρ c) (b5 C B' F w) (F c) w (ρ c) (.map aH .aL es):=ar.holds c _ cQ;have ajR:=ar.holds d _ dn;have ajS:mS.bn (b5 C B' F w) (F e) w (ρ e):=ar.holds e _ g0;have ud: ∀y,F d y-> ¬F e y:=fun y aD ed=>ar.fj d e _ _ y dn g0 ajQ aD ed
 have aq:(yF oA mS).bn (b5 C B' F w) (fun y=>F d y\/F e y) w (ρ d):=⟨F d,F e,ρ e,fun x=>Iff.rfl,ud,M' ρ _ _ _ _ ajR,ajS⟩;have af:=au.mp ((g1 x m1).trans hx);have ao:a.eval i=gQ aH key:=B0 Z (au.ev (g1 i m2));have bm:a.eval v= .pointer (some ⟨(ρ d).bh,0,none⟩):=au.ev ((g1 v m3).trans aA)
 have c6:jy (b5 C B' F w) w .aL (A8 (ρ d).bh) (a.eval v):=by
  rw[bm];exact⟨rfl,⟨fun _=>rfl,fun h=>by cases h⟩,rfl⟩
 obtain⟨eE,jV,aC,gv,qr⟩:=BL (P:=P) ci kg H aW bG fP key c6;have eG: ∀y,(F d y\/F e y)-> ¬F c y:=fun y aD ed=>aD.elim (fun aD=>ar.fj d c _ _ y dn cQ (Ne.symm a6) aD ed) (fun aD=>ar.fj e c _ _ y g0 cQ (Ne.symm UK) aD ed)
 have rE:=(Array.getElem?_eq_some_iff.1 aW).1;have u1: ∀y,y≠(ρ c).bh->({w with heap:=w.heap.setIfInBounds (ρ c).bh (.map (List.toArray eE) jV)}:World).heap[y]? =w.heap[y]? :=fun y aD=>Array.getElem?_setIfInBounds_ne (Ne.symm aD)
 unfold Oper.wp;have hx:(execOp a.eval o).run P w= .ok .skip {w with heap:=w.heap.setIfInBounds (ρ c).bh (.map (List.toArray eE) jV)}:=az1
 rw[hx,Oper.upon_skip]
 obtain⟨bP,aZ⟩:=ar.step (B':=(c,.aF (HE aH es key (yF oA mS)))::gY (gY B' d) e) (ρ':=ρ) (F':=dc F c (fun y=>F c y\/(F d y\/F e y))) (w':={w with heap:=w.heap.setIfInBounds (ρ c).bh (.map (List.toArray eE) jV)}) (fun j=>j=d\/j=e\/j=c) (fun _=>False)
  ((uI (S:=F c) ((mT _).2 rfl)).mono fun y _ aD=>⟨c,_,cQ,.inr (.inr rfl),aD⟩)
  (fun j ch V aw=>by
   rw[cd,if_neg (fun e=>aw (.inr (.inr e.symm))),hv,if_neg (fun e=>aw (.inr (.inl e.symm))),hv,if_neg (fun e=>aw (.inl e.symm))] at V;exact V)
  (fun _ _=>rfl) (fun j aw=>dm _ _ (fun e=>aw (.inr (.inr e)))) (fun _ _ h=>h) (fun _ h=>h.elim) (fun _ _ _ _ _ _ h=>h)
  (fun j ch V aw aZ=>by
   rw[cd] at V
   split at V
   .rename_i e;subst e;injection V with V
    subst V;rw[dd];have xG: ∀y,(F d y\/F e y)->y≠(ρ c).bh:=fun y aD e=>eG y aD (e▸(mT _).2 rfl)
    refine⟨fun y=>F d y\/F e y,ρ d,fun y=>?_,fun h=>xG _ h rfl,⟨eE,jV,by simp[rE],gv.mono aZ,qr⟩,(yF oA mS).ck _ _ _ _ _ _ aq aZ (fun y aD=>u1 y (xG y aD)) aw2⟩;show(F c y\/(F d y\/F e y))↔(y=(ρ c).bh\/(F d y\/F e y));rw[mT]
   .rename_i bJ;rcases aw with rfl |rfl |rfl
    .rw[hv] at V
     split at V
     .cases V
     .rw[hv,if_pos rfl] at V;cases V
    .rw[hv,if_pos rfl] at V;cases V
    .exact absurd rfl bJ)
  (fun j ch V aw y aD=>by
   rw[cd] at V
   split at V
   .rename_i bJ;subst bJ;rw[dd] at aD;rcases aD with aD |aD |aD
    .exact⟨by simpa using(ar.own c _ cQ y aD).1,.inl ⟨c,_,cQ,.inr (.inr rfl),aD⟩⟩
    .exact⟨by simpa using(ar.own d _ dn y aD).1,.inl ⟨d,_,dn,.inl rfl,aD⟩⟩
    .exact⟨by simpa using(ar.own e _ g0 y aD).1,.inl ⟨e,_,g0,.inr (.inl rfl),aD⟩⟩
   .rename_i bJ;rcases aw with rfl |rfl |rfl
    .rw[hv] at V
     split at V
     .cases V
     .rw[hv,if_pos rfl] at V;cases V
    .rw[hv,if_pos rfl] at V;cases V
    .exact absurd rfl bJ)
  (fun j rB ch ch' y V kx aw gv ajT=>by
   have key: ∀j ch,aj ((c,ba.aF (HE aH es key (yF oA mS)))::gY (gY B' d) e) j=some ch->(j=d\/j=e\/j=c)->j=c:=fun j ch V aw=>by
    rcases aw with rfl |rfl |rfl
    .rw[cd,if_neg a6,hv] at V
     split at V
     .cases V
     .rw[hv,if_pos rfl] at V;cases V
    .rw[cd,if_neg UK,hv,if_pos rfl] at V;cases V
    .rfl
   exact absurd ((key j ch V aw).trans (key rB ch' kx gv).symm) ajT)
 exact dq _ _ ⟨kq.trans hn,kr.trans mr,ρ,_,bP,(au.mono aZ fun _ _ _=>rfl).ku (fun e U=>by rw[hn];exact bx e U) rfl⟩
theorem c5.ajU (c d:Nat) {aH:bA} {es:List (aa aH×aa .aL)} {key:aa aH} {o:bg} (J:aj B c=some (.aF (HE aH es key o))) (H:g9 ids K B d=true):c5 ids K B (X:=Nat) (fun _=>K) (fun ad=>(d,.aF (o.at ad))::(c,.map aH .aL (dw (aH:=aH) (aJ:=.aL) es key (A8 ad)))::B):=by
 rintro N C a w ⟨hn,mr,ρ,F,ar,au⟩;obtain⟨b9,q,E,G,⟨bU,bV,aW,bG,fP⟩,ji⟩:UJ aH es key o (b5 C B F w) (F c) w (ρ c):=ar.holds c _ J;obtain⟨io,jB,pL,pM⟩:=kV H
 obtain⟨bP,aZ⟩:=ar.split (K:=K) (i3:=.map aH .aL (dw (aH:=aH) (aJ:=.aL) es key (A8 q.bh))) (oY:=.aF (o.at q.bh)) J H q (fun x=>x=(ρ c).bh) b9 (fun b O=>(E b).2 (.inl O)) (fun b O=>(E b).2 (.inr O)) (fun b O kW=>G (O▸kW))
  (fun I a2=>⟨fun b=>Iff.rfl,bU,bV,aW,bG.mono a2,fP⟩) (fun I a2=>by
   refine⟨rfl,?_⟩;exact o.ck _ _ _ _ _ _ ji a2 (fun _ _=>rfl) (aq4 _))
 exact⟨q.bh,hn,mr,_,_,bP,au.mono aZ fun s j V=>dm _ _ (fun b6=>by subst b6;rw[io s] at V;cases V)⟩
theorem c5.ajV (d e:Nat) {oA:Nat->bg} {mS:bg} {ad:Nat} (J:aj B d=some (.aF ((yF oA mS).at ad))) (U:g9 ids K B e=true):c5 ids K B (X:=Nat) (fun _=>K) (fun du=>(e,.aF (mS.at du))::(d,.aF ((oA du).at ad))::B):=by
 rintro N C a w ⟨hn,mr,ρ,F,ar,au⟩;obtain⟨O,cz,cN,q,E,G,al,aW⟩:((yF oA mS).at ad).bn (b5 C B F w) (F d) w (ρ d):=ar.holds d _ J;obtain⟨io,jB,pL,pM⟩:=kV U
 obtain⟨bP,aZ⟩:=ar.split (K:=K) (i3:=.aF ((oA q.bh).at ad)) (oY:=.aF (mS.at q.bh)) J U q cz cN (fun b O=>(E b).2 (.inl O)) (fun b O=>(E b).2 (.inr O)) G
  (fun I a2=>⟨O,(oA q.bh).ck _ _ _ _ _ _ al a2 (fun _ _=>rfl) (aq4 _)⟩) (fun I a2=>⟨rfl,mS.ck _ _ _ _ _ _ aW a2 (fun _ _=>rfl) (aq4 _)⟩)
 exact⟨q.bh,hn,mr,_,_,bP,au.mono aZ fun s j V=>dm _ _ (fun b6=>by subst b6;rw[io s] at V;cases V)⟩
end
theorem UL {nm:aA0} {on us:Bool} {du:Nat}:(qS nm on us du).pb:=fun I F w p h=>(h.1 _).2 rfl
theorem UM {s g:Int} {es:List (aa ai×aa ai)}:(fv s g es).pb:=by
 rintro I F w p ⟨ρ,b9,E,G,al,aW⟩;obtain⟨bd,_⟩:=G 1001 _ rfl;exact(aW _).2 ⟨1001,_,rfl,(bd _).2 (by rw[E])⟩
theorem ajW (l:List bf): ∀p∈j8 l,p.2.pb:=fun p ae=>by
 obtain⟨d,_,rfl⟩:=as5.1 ae;exact UL
theorem ajX (l:List bf): ∀p∈jQ l,p.2.pb:=fun p ae=>by
 obtain⟨d,_,rfl⟩:=as5.1 ae;exact UM
theorem UN (nm:aA0) (x:aa .aL): ∀L:List bf,c1 L nm=none->dw (aH:=.str) (aJ:=.aL) (dY L) (nm:aa .str) x=(dY L++[AL nm x]:List (aa .str×aa .aL))
 | [],_=>rfl
 |d::L,h=>by
  rw[wX] at h
  by_cases e:d.nm=nm
  .rw[if_pos e] at h;cases h
  .rw[if_neg e] at h;have bu:=UN nm x L h;show dw (aH:=.str) (aJ:=.aL) (jP d::dY L) (nm:aa .str) x=_;rw[show dw (aH:=.str) (aJ:=.aL) (jP d::dY L) (nm:aa .str) x=(match fN .str (nm:aa .str) (jP d).1 with |true=>AL nm x::dY L |false=>jP d::dw (aH:=.str) (aJ:=.aL) (dY L) (nm:aa .str) x:List (aa .str×aa .aL)) from rfl];rw[show fN .str (nm:aa .str) (jP d).1=false from rG (aH:=.str) qB (fun h=>e h.symm)];simp only;rw[bu];rfl
theorem HF {l:List bf} {nm:aA0} (h:c1 l nm=none):nm∉l.map (·.nm):=fun hx=>by
 obtain⟨d,H,e⟩:=as5.1 hx;have:=List.find?_eq_none.1 h d H;exact this (by simpa using e)
theorem dO.add {l:List bf} (h:dO l) {e:bf} (av:c1 l e.nm=none) (ha:e.ad∉l.map (·.ad)) (O:e.du∉l.map (·.du)) (bz:(0<=e.s/\e.s<=4096)/\(1<=e.g/\e.g<=64)/\fb e.es/\e.nm.length<=64) (ap:l.length < 8):dO (l++[e]):=by
 have key: ∀{α:Type} (f:bf->α) (d:bf),(l.map f).Nodup->f d∉l.map f->((l++[d]).map f).Nodup:=fun f d E G=>by
  rw[at9];refine List.nodup_append.2 ⟨E,aw2,fun a ha b O e=>?_⟩;rw[ar8,av4,ar5] at O;exact G (by rw[<-O,<-e];exact ha)
 refine⟨key _ _ h.iA (HF av),key _ _ h.lv ha,key _ _ h.vp O,fun x hx=>?_,by rw[aq5];show l.length+1<=8;omega⟩;rcases as4.1 hx with hx |hx
 .exact h.ok x hx
 .rw[ar5.1 hx];exact bz
theorem UO {f:bf->Nat×bg} (L:List bf) (d:bf):(f d::L.map f).Perm ((L++[d]).map f):=by
 rw[at9];exact(List.perm_append_comm (l₁:=[f d]) (l₂:=L.map f))
abbrev A9 (l:List bf) (s g:Int) (es:List (aa ai×aa ai)):ay:=eC l++iF 2001 2002 s g es
theorem DP {l:List bf} {nm:aA0} (av:c1 l nm=none):(bY (aH:=.str) (aJ:=.aL) (dY l) nm).getD (cL .aL)=none:=by rw[HA,av];rfl
theorem Ba {l:List bf} {nm:aA0} {e:bf} (av:c1 l nm=some e):(bY (aH:=.str) (aJ:=.aL) (dY l) nm).getD (cL .aL)=some e.ad:=by rw[HA,av];rfl
theorem UP {l:List bf} (h:dO l) (nm:aA0) (hn:nm.length<=4294967296) (aC:g4 nm=true) (av:c1 l nm=none) (gJ:l.length < 8) (s g:Int) (es:List (aa ai×aa ai)) (bz:(0<=s/\s<=4096)/\(1<=g/\g<=64)/\fb es):
  cA Tryz.prog 70 [ah 1001,bQ nm,ah 2001] (A9 l s g es) [] (X:={p:Nat×Nat//dO (l++[⟨nm,p.1,p.2,true,true,s,g,es⟩])}) (fun _=>ac 0) (fun p=>A9 (l++[⟨nm,p.1.1,p.1.2,true,true,s,g,es⟩]) s g es):=by
 have hx:=DP av;have bZ:(dY l).length=l.length:=ar7 ..;refine hQ [5,6] Tryz.func70 ?_;refine ak (qN _ hn) ⟨fun af=>?_,fun af=>?_⟩
 .rw[aC] at af;cases af
 refine⟨fun ea bm=>?_,fun bm=>?_⟩
 .exfalso;have:(bY (aH:=.str) (aJ:=.aL) (dY l) nm).getD (cL .aL)=some ea:=bm;rw[hx] at this
  cases this
 refine⟨fun c6=>?_,fun c6=>?_⟩
 .exfalso;have c6:(8:Int)<=((dY l).length:Int):=gd c6;omega
 refine bk.le (ab.ajO 1002 (fun _=>rfl) rfl) <| br [6] (bq) <| ak (Fn.aV [(1001,38),(3001,2001),(3002,2002)] (ajM s g es)) ⟨rfl,_,_,fun N=>ajP (c:=1002) (d:=40) (e:=38) (aH:=.str) (key:=nm) (oA:=fun du=>qS nm true true du) rfl Tryz.underlying104 (dk:=.string) aw3 rfl rfl rfl rfl rfl rfl rfl aw1 aw1 aw1 (fun ρ I F w p bj=>?M') N,rfl,?_⟩
 case M'=>
  obtain⟨cC,aE,T,cF,kS,r1,af,kY,v2,r2,ao,bF,v3,fV,bm,uD,v4,j1,c6,BY,f2⟩:=bj;exact⟨cC,aE,T,cF,kS,r1,af,kY,v2,r2,ao,bF,v3,fV,bm,uD,v4,j1,c6,BY,f2⟩
 refine⟨eM aw3,bk.eH (c5.ajU 1002 5001 rfl rfl) fun ad=>bk.eH (c5.ajV 5001 5002 rfl rfl) fun du=>bk.le (K':=[]) (B':=[(1001,.cells [.mp 1002]),(1002,.map .str .aL (dw (aH:=.str) (aJ:=.aL) (dY l) nm (A8 ad))),(1003,.aF (.bw ((ad,qS nm true true du)::j8 l))),(1004,.aF (.bw ((du,fv s g es)::jQ l))),(2001,.cells [.d (.int .i64 s),.d (.int .i64 g),.mp 2002]),(2002,.map ai ai es)]) (ab.trans (ab.put 1003 5001 aw1 rfl rfl) (ab.trans (ab.put 1004 5002 aw1 rfl rfl) (ab.sub trivial az))) ?_⟩;refine bk.eH (c5.CC 1003 (L:=(ad,qS nm true true du)::j8 l) (fun p ae=>(aq7.1 ae).elim (fun e=>by rw[e];exact UL) (ajW l p)) rfl) fun ajY=>?_
 refine bk.eH (c5.CC 1004 (L:=(du,fv s g es)::jQ l) (fun p ae=>(aq7.1 ae).elim (fun e=>by rw[e];exact UM) (ajX l p)) rfl) fun ajZ=>?_
 refine br [] (bq) ?_;have L2:ad∉l.map (·.ad):=fun aw=>(at0.1 ajY.down).1 (by show ad∈(j8 l).map (·.1);unfold j8;rw[at8];exact aw)
 have aj0:du∉l.map (·.du):=fun aw=>(at0.1 ajZ.down).1 (by show du∈(jQ l).map (·.1);unfold jQ;rw[at8];exact aw)
 have LA:nm.length<=64:=by have:=(Dp aC).2;omega
 have pk:dw (aH:=.str) (aJ:=.aL) (dY l) (nm:aa .str) (A8 ad)=dY (l++[⟨nm,ad,du,true,true,s,g,es⟩]):=(UN nm _ l av).trans (by unfold dY;rw[at9];rfl);exact⟨⟨(ad,du),h.add (e:=⟨nm,ad,du,true,true,s,g,es⟩) av L2 aj0 ⟨bz.1,bz.2.1,bz.2.2,LA⟩ gJ⟩,_,_,_,ab.trans (ab.AK 1003 (UO (f:=wV) l ⟨nm,ad,du,true,true,s,g,es⟩) rfl) (ab.AK 1004 (UO (f:=wW) l ⟨nm,ad,du,true,true,s,g,es⟩) rfl),rfl,rfl,⟨rfl,congrArg (fun e=>some (ba.map .str .aL e)) pk,rfl,rfl,rfl,rfl,trivial⟩,rfl⟩
theorem aj1 {l:List bf} (nm:aA0) (hn:nm.length<=4294967296) (aC:g4 nm=false) (s g:Int) (es:List (aa ai×aa ai)):
  Fn Tryz.prog 70 [ah 1001,bQ nm,ah 2001] (A9 l s g es) [] (ac 1) (A9 l s g es):=by
 refine aT [] Tryz.func70 ?_;refine ak (qN _ hn) ⟨fun af=>?_,fun af=>?_⟩
 .exact bc
 .rw[aC] at af;cases af
theorem aj2 {l:List bf} (nm:aA0) (hn:nm.length<=4294967296) (aC:g4 nm=true) (av:(c1 l nm).isSome=true\/8<=l.length) (s g:Int) (es:List (aa ai×aa ai)):
  Fn Tryz.prog 70 [ah 1001,bQ nm,ah 2001] (A9 l s g es) [] (ac 111) (A9 l s g es):=by
 have bZ:(dY l).length=l.length:=ar7 ..;refine aT [5] Tryz.func70 ?_;refine ak (qN _ hn) ⟨fun af=>?_,fun af=>?_⟩
 .rw[aC] at af;cases af
 refine⟨fun ea bm=>?_,fun bm=>?_⟩
 .exact bc
 refine⟨fun c6=>?_,fun c6=>?_⟩
 .exact bc
 .exfalso;have bm:(bY (aH:=.str) (aJ:=.aL) (dY l) nm).getD (cL .aL)=none:=bm;have c6: ¬(8:Int)<=((dY l).length:Int):=mu c6;rcases av with av |av
  .rw[HA] at bm
   cases E:c1 l nm with
   |none=>rw[E] at av;cases av
   |some e=>rw[E] at bm;cases bm
  .omega
end
section
theorem aj3 {l l':List bf} {nm:aA0} {e:bf} (U:c1 l nm=some e) (J:Fn Tryz.prog 175 [c8 e.ad,ah 3001,ah 3002] (eC l++[(3001,.cells [.ptr 1001 0]),(3002,.cells [.d (.str nm)])]) [] gV (eC l'++[(3001,.cells [.ptr 1001 0]),(3002,.cells [.d (.str nm)])])):
  Fn Tryz.prog 52 [ah 1001,bQ nm,.c (.one (.cY 175 [.p 3001 0,.p 3002 0]))] (eC l++[(3001,.cells [.ptr 1001 0]),(3002,.cells [.d (.str nm)])]) [] (ac 0) (eC l'++[(3001,.cells [.ptr 1001 0]),(3002,.cells [.d (.str nm)])]):=by
 have h':=Ba U;refine aT [] Tryz.func52 ?_;exact⟨fun ea O=>ak (Fn.arg (args:=[AG ((bY (aH:=.str) (aJ:=.aL) (dY l) nm).getD (cL .aL)),ah 3001,ah 3002]) J ⟨h',rfl,rfl,trivial⟩) bc,fun O=>absurd (show(bY (aH:=.str) (aJ:=.aL) (dY l) nm).getD (cL .aL)=none from O) ax5⟩
theorem aj4 {l:List bf} {nm:aA0} (U:c1 l nm=none):
  Fn Tryz.prog 52 [ah 1001,bQ nm,.c (.one (.cY 175 [.p 3001 0,.p 3002 0]))] (eC l++[(3001,.cells [.ptr 1001 0]),(3002,.cells [.d (.str nm)])]) [] (ac 112) (eC l++[(3001,.cells [.ptr 1001 0]),(3002,.cells [.d (.str nm)])]):=by
 have h':=DP U;refine aT [] Tryz.func52 ?_;exact⟨fun ea O=>absurd (show(bY (aH:=.str) (aJ:=.aL) (dY l) nm).getD (cL .aL)=some ea from O) ax5,fun _=>bc⟩
theorem aj5 {l l':List bf} {nm:aA0} (on:Bool) {e:bf} (U:c1 l nm=some e) (J:Fn Tryz.prog 176 [c8 e.ad,ah 3001] (eC l++[(3001,.cells [.d (.bool on)])]) [] gV (eC l'++[(3001,.cells [.d (.bool on)])])):
  Fn Tryz.prog 52 [ah 1001,bQ nm,.c (.one (.cY 176 [.p 3001 0]))] (eC l++[(3001,.cells [.d (.bool on)])]) [] (ac 0) (eC l'++[(3001,.cells [.d (.bool on)])]):=by
 have h':=Ba U;refine aT [] Tryz.func52 ?_;exact⟨fun ea O=>ak (Fn.arg (args:=[AG ((bY (aH:=.str) (aJ:=.aL) (dY l) nm).getD (cL .aL)),ah 3001]) J ⟨h',rfl,trivial⟩) bc,fun O=>absurd (show(bY (aH:=.str) (aJ:=.aL) (dY l) nm).getD (cL .aL)=none from O) ax5⟩
theorem aj6 {l:List bf} {nm:aA0} (on:Bool) (U:c1 l nm=none):
  Fn Tryz.prog 52 [ah 1001,bQ nm,.c (.one (.cY 176 [.p 3001 0]))] (eC l++[(3001,.cells [.d (.bool on)])]) [] (ac 112) (eC l++[(3001,.cells [.d (.bool on)])]):=by
 have h':=DP U;refine aT [] Tryz.func52 ?_;exact⟨fun ea O=>absurd (show(bY (aH:=.str) (aJ:=.aL) (dY l) nm).getD (cL .aL)=some ea from O) ax5,fun _=>bc⟩
theorem aj7 {l l':List bf} {nm:aA0} {e:bf} (U:c1 l nm=some e) (J:Fn Tryz.prog 171 [c8 e.ad] (eC l) [] gV (eC l')):
  Fn Tryz.prog 52 [ah 1001,bQ nm,.c (.one (.cY 171 []))] (eC l) [] (ac 0) (eC l'):=by
 have h':=Ba U;refine aT [] Tryz.func52 ?_;exact⟨fun ea O=>ak (Fn.arg (args:=[AG ((bY (aH:=.str) (aJ:=.aL) (dY l) nm).getD (cL .aL))]) J ⟨h',trivial⟩) bc,fun O=>absurd (show(bY (aH:=.str) (aJ:=.aL) (dY l) nm).getD (cL .aL)=none from O) ax5⟩
theorem aj8 {l:List bf} {nm:aA0} (U:c1 l nm=none):
  Fn Tryz.prog 52 [ah 1001,bQ nm,.c (.one (.cY 171 []))] (eC l) [] (ac 112) (eC l):=by
 have h':=DP U;refine aT [] Tryz.func52 ?_;exact⟨fun ea O=>absurd (show(bY (aH:=.str) (aJ:=.aL) (dY l) nm).getD (cL .aL)=some ea from O) ax5,fun _=>bc⟩
theorem aj9 {l l':List bf} {nm:aA0} (on us:Bool) (s g:Int) (es:List (aa ai×aa ai)) {e:bf} (U:c1 l nm=some e) (J:Fn Tryz.prog 53 [c8 e.ad,ah 3001] (eC l++[(3001,.cells [.d (.str []),.d (.lit false),.d (.lit false),.bM (.pointer none)])]) [5001,5002] gV (eC l'++[(3001,.cells [.d (.str nm),.d (.bool on),.d (.bool us),.ptr 5001 0]),(5001,.cells [.d (.int .i64 s),.d (.int .i64 g),.mp 5002]),(5002,.map ai ai es)])):
  Fn Tryz.prog 52 [ah 1001,bQ nm,.c (.one (.cY 53 [.p 3001 0]))] (eC l++[(3001,.cells [.d (.str []),.d (.lit false),.d (.lit false),.bM (.pointer none)])]) [5001,5002] (ac 0) (eC l'++[(3001,.cells [.d (.str nm),.d (.bool on),.d (.bool us),.ptr 5001 0]),(5001,.cells [.d (.int .i64 s),.d (.int .i64 g),.mp 5002]),(5002,.map ai ai es)]):=by
 have h':=Ba U;refine aT [] Tryz.func52 ?_;exact⟨fun ea O=>ak (Fn.arg (args:=[AG ((bY (aH:=.str) (aJ:=.aL) (dY l) nm).getD (cL .aL)),ah 3001]) J ⟨h',rfl,trivial⟩) bc,fun O=>absurd (show(bY (aH:=.str) (aJ:=.aL) (dY l) nm).getD (cL .aL)=none from O) ax5⟩
theorem aj' {l:List bf} {nm:aA0} (U:c1 l nm=none):
  Fn Tryz.prog 52 [ah 1001,bQ nm,.c (.one (.cY 53 [.p 3001 0]))] (eC l++[(3001,.cells [.d (.str []),.d (.lit false),.d (.lit false),.bM (.pointer none)])]) [] (ac 112) (eC l++[(3001,.cells [.d (.str []),.d (.lit false),.d (.lit false),.bM (.pointer none)])]):=by
 have h':=DP U;refine aT [] Tryz.func52 ?_;exact⟨fun ea O=>absurd (show(bY (aH:=.str) (aJ:=.aL) (dY l) nm).getD (cL .aL)=some ea from O) ax5,fun _=>bc⟩
def mw (l:List bf) (nm:aA0) (u:bf->bf):List bf:=l.map fun x=>if x.nm=nm then u x else x
theorem Na {l:List bf} (h:dO l) {nm:aA0} {e:bf} (U:c1 l nm=some e) (u:bf->bf):nb l e.ad u=mw l nm u:=by
 obtain⟨E,G⟩:=jR U;unfold nb mw;refine as7 fun x hx=>?_
 by_cases J:x.ad=e.ad
 .have:=vq h.lv hx E J;subst this;rw[if_pos J,if_pos G]
 .rw[if_neg J,if_neg fun ao=>J (by rw[vq h.iA hx E (ao.trans G.symm)])]
theorem HG {l:List bf} {nm:aA0} (U:c1 l nm=none) (u:bf->bf):mw l nm u=l:=by
 unfold mw;refine(as7 fun x hx=>?_).trans (List.map_id' l);rw[if_neg fun e=>HF U (by rw[<-e];exact as0 hx)]
theorem dO.nil:dO []:=⟨List.Pairwise.nil,List.Pairwise.nil,List.Pairwise.nil,(fun e U=>by cases U),aq9 _⟩
theorem dO.UQ {l:List bf} (h:dO l) (u:bf->bf) (nm:aA0) (E: ∀e,(u e).nm=e.nm/\(u e).ad=e.ad/\(u e).du=e.du) (G: ∀e,(0<=e.s/\e.s<=4096)/\(1<=e.g/\e.g<=64)/\fb e.es->(0<=(u e).s/\(u e).s<=4096)/\(1<=(u e).g/\(u e).g<=64)/\fb (u e).es):dO (mw l nm u):=by
 cases U:c1 l nm with
 |none=>rw[HG U];exact h
 |some e=>
  rw[<-Na h U];exact h.dc E fun x hx _=>G x ⟨(h.ok x hx).1,(h.ok x hx).2.1,(h.ok x hx).2.2.1⟩
def yG (l:List bf) (nm:aA0):Int:=if(c1 l nm).isSome=true then 0 else 112
theorem HH {l:List bf} {nm:aA0} {e:bf} (U:c1 l nm=some e):yG l nm=0:=by unfold yG;rw[U];rfl
theorem HI {l:List bf} {nm:aA0} (U:c1 l nm=none):yG l nm=112:=by unfold yG;rw[U];rfl
theorem aka {l:List bf} (h:dO l) (nm:aA0) (on:Bool):Fn Tryz.prog 126 [ah 1001,bQ nm,fk on] (eC l) [] (ac (yG l nm)) (eC (mw l nm fun x=>{x with on:=on})):=by
 cases U:c1 l nm with
 |none=>
  have J:=aj6 on U;rw[HI U,HG U];refine aT [] Tryz.func126 ?_;exact⟨rfl,ak (Fn.aV [(3001,5)] J) bc⟩
 |some e=>
  have J:=aj5 on U (ajJ h (jR U).1 on);rw[HH U,<-Na h U];refine aT [] Tryz.func126 ?_;exact⟨rfl,ak (Fn.aV [(3001,5)] J) bc⟩
theorem akb {l:List bf} (h:dO l) (nm:aA0):Fn Tryz.prog 123 [ah 1001,bQ nm] (eC l) [] (ac (yG l nm)) (eC (mw l nm oz)):=by
 cases U:c1 l nm with
 |none=>
  have J:=aj8 U;rw[HI U,HG U];refine aT [] Tryz.func123 ?_;exact ak J bc
 |some e=>
  have J:=aj7 U (ajK h (jR U).1);rw[HH U,<-Na h U];refine aT [] Tryz.func123 ?_;exact ak J bc
def k3:List bf->aA0->List bf
 | [],_=>[]
 |d::L,nm=>if d.nm=nm then L else d::k3 L nm
theorem Bb (L:List bf) (nm:aA0):(k3 L nm).Sublist L:=by
 induction L with
 |nil=>exact .slnil
 |cons e L bu=>
  unfold k3
  split
  .exact List.sublist_cons_self ..
  .exact bu.cons_cons _
theorem UR {nm:aA0}: ∀{L:List bf},c1 L nm=none->k3 L nm=L
 | [],_=>rfl
 |d::L,h=>by
  rw[wX] at h;unfold k3
  by_cases e:d.nm=nm
  .rw[if_pos e] at h;cases h
  .rw[if_neg e] at h;rw[if_neg e,UR h]
theorem US (nm:aA0): ∀L:List bf,gR (aH:=.str) (aJ:=.aL) (dY L) nm=dY (k3 L nm)
 | []=>rfl
 |d::L=>by
  have bu:=US nm L;show gR (aH:=.str) (aJ:=.aL) (jP d::dY L) nm=_;rw[show gR (aH:=.str) (aJ:=.aL) (jP d::dY L) nm=match fN .str (nm:aa .str) (jP d).1 with |true=>dY L |false=>jP d::gR (aH:=.str) (aJ:=.aL) (dY L) nm from rfl];unfold k3
  by_cases e:d.nm=nm
  .rw[show fN .str (nm:aa .str) (jP d).1=true from(qB _ _).2 e.symm,if_pos e]
  .rw[show fN .str (nm:aa .str) (jP d).1=false from rG (aH:=.str) qB (fun h=>e h.symm),if_neg e];simp only;rw[bu];rfl
theorem Nb {f:bf->Nat×bg}: ∀{L:List bf},(L.map fun d=>(f d).1).Nodup-> ∀{nm:aA0} {bO:bf},c1 L nm=some bO->kh (L.map f) (f bO).1=(k3 L nm).map f
 | [],_,nm,bO,h=>by cases h
 |d::L,hn,nm,bO,h=>by
  rw[ar8] at hn;obtain⟨cM,dK⟩:=at0.1 hn;rw[wX] at h;rw[ar8];unfold kh k3
  by_cases e:d.nm=nm
  .rw[if_pos e] at h;injection h with h
   subst h;rw[if_pos rfl,if_pos e]
  .rw[if_neg e] at h;have a6: ¬(f d).1=(f bO).1:=fun ao=>cM (by rw[ao];exact as0 (f:=fun d=>(f d).1) (jR h).1)
   rw[if_neg a6,if_neg e,ar8,Nb dK h]
theorem dO.lU {l:List bf} (h:dO l) (nm:aA0):dO (k3 l nm):=
 ⟨h.iA.sublist ((Bb l nm).map _),h.lv.sublist ((Bb l nm).map _),h.vp.sublist ((Bb l nm).map _),fun e U=>h.ok e ((Bb l nm).subset U),au4 (Bb l nm).length_le h.len⟩
theorem akc {l:List bf} (h:dO l) {nm:aA0} {e:bf} (U:c1 l nm=some e):Fn Tryz.prog 175 [c8 e.ad,ah 3001,ah 3002] (eC l++[(3001,.cells [.ptr 1001 0]),(3002,.cells [.d (.str nm)])]) [] gV (eC (k3 l nm)++[(3001,.cells [.ptr 1001 0]),(3002,.cells [.d (.str nm)])]):=by
 have cp:=h.D (jR U).1;have ar:=h.M (jR U).1;have pk:=US nm l;have sV:kh (j8 l) e.ad=j8 (k3 l nm):=Nb (f:=wV) h.lv U;have wK:kh (jQ l) e.du=jQ (k3 l nm):=Nb (f:=wW) h.vp U;refine aT [] Tryz.func175 ?_;exact⟨eM aw3,_,_,_,(ab.CQ 1003 6001 e.ad rfl cp rfl).trans (ab.CQ 1004 6002 e.du rfl ar rfl),rfl,trivial,⟨rfl,congrArg (fun e=>some (ba.map .str .aL e)) pk,congrArg (fun e=>some (ba.aF (.bw e))) sV,congrArg (fun e=>some (ba.aF (.bw e))) wK,rfl,rfl,trivial⟩,rfl⟩
theorem akd {l:List bf} (h:dO l) (nm:aA0):Fn Tryz.prog 125 [ah 1001,bQ nm] (eC l) [] (ac (yG l nm)) (eC (k3 l nm)):=by
 cases U:c1 l nm with
 |none=>
  have J:=aj4 U;rw[HI U,UR U];refine aT [] Tryz.func125 ?_;exact⟨rfl,rfl,ak (Fn.aV [(3001,2),(3002,3)] J) bc⟩
 |some e=>
  have J:=aj3 U (akc h U);rw[HH U];refine aT [] Tryz.func125 ?_;exact⟨rfl,rfl,ak (Fn.aV [(3001,2),(3002,3)] J) bc⟩
theorem ake:(Tryz.prog.info? 60).map (·.size)=some 4:=by kernel_rfl
abbrev jC (nm:aA0) (on us:Bool):List bC:=[.d (.str nm),.d (.bool on),.d (.bool us),.ptr 5001 0]
theorem akf {l:List bf} (h:dO l) {e:bf} (U:e∈l):Fn Tryz.prog 53 [c8 e.ad,ah 3001] (eC l++[(3001,.cells [.d (.str []),.d (.lit false),.d (.lit false),.bM (.pointer none)])]) [5001,5002] gV (eC l++[(3001,.cells (jC e.nm e.on e.us)),(5001,.cells [.d (.int .i64 e.s),.d (.int .i64 e.g),.mp 5002]),(5002,.map ai ai e.es)]):=by
 obtain⟨M9,wY,wZ⟩:=ki HD;obtain⟨C1,akg,akh⟩:=ki ake;have cp:=h.D U;have ar:=h.M U;have J:=ajN ar;refine aT [] Tryz.func53 ?_;refine⟨_,_,fun N=>i' (b:=e.ad) rfl rfl N,rfl,?_⟩;refine⟨_,_,fun N=>ajL (q:=1003) (l:=A6 e.nm e.on e.us e.du) rfl Tryz.underlying60 rfl akg akh rfl rfl cp N,rfl,?_⟩;refine⟨_,_,fun N=>i' (b:=e.ad) rfl rfl N,rfl,?_⟩;refine⟨_,_,fun N=>jr rfl Tryz.underlying60 rfl rfl wY (by rw[wZ];decide) rfl N,rfl,?_⟩;refine⟨_,_,fun N=>ln (q:=1003) rfl Tryz.underlying58 rfl rfl rfl cp rfl N,rfl,?_⟩;exact ak J bc
theorem aki {l:List bf} (h:dO l) {nm:aA0} {e:bf} (U:c1 l nm=some e):Fn Tryz.prog 24 [ah 1001,bQ nm] (eC l) [5001,5002] (.cb [.agg (jC e.nm e.on e.us),dp 0]) (eC l++[(5001,.cells [.d (.int .i64 e.s),.d (.int .i64 e.g),.mp 5002]),(5002,.map ai ai e.es)]):=by
 have aY:=akf h (jR U).1;rw[(jR U).2] at aY;have J:=aj9 e.on e.us e.s e.g e.es U aY;rw[(jR U).2];refine aT [] Tryz.func24 ?_;exact⟨rfl,rfl,ak (Fn.aV [(3001,6)] J) <| ej bq rfl ⟨az,rfl,trivial⟩⟩
theorem akj {l:List bf} {nm:aA0} (U:c1 l nm=none):Fn Tryz.prog 24 [ah 1001,bQ nm] (eC l) [] (.cb [.agg [.d (.str []),.d (.lit false),.d (.lit false),.bM (.pointer none)],dp 112]) (eC l):=by
 have J:=aj' U;refine aT [] Tryz.func24 ?_;exact⟨rfl,rfl,ak (Fn.aV [(3001,6)] J) <| ej bq rfl ⟨az,rfl,trivial⟩⟩
end
section
abbrev oB:bA:=.bK (.int .i64) (.b4 .u8)
abbrev l5:bA:=.bK .str (.bK .str (.bK (.int .i64) (.bK (.int .i64) (.b4 oB))))
abbrev je:Type:=aa oB
abbrev bR:Type:=aa l5
abbrev fD (p:je):Int:=p.1
abbrev jS (p:je):aA0:=p.2
abbrev d4 (b:bR):aA0:=b.1
abbrev di (b:bR):aA0:=b.2.1
abbrev c4 (b:bR):Int:=b.2.2.1
abbrev eI (b:bR):Int:=b.2.2.2.1
abbrev cD (b:bR):List je:=b.2.2.2.2
abbrev HJ (b:bR):List bC:=[.d (.str (d4 b)),.d (.str (di b)),.d (.int .i64 (c4 b)),.d (.int .i64 (eI b)),.d (.cf oB (cD b))]
abbrev yH (b:bR):aO:=.c (.agg (HJ b))
abbrev kJ (L:List bR):ay:=[(1001,.cells [.own 1002]),(1002,.row 78 l5 L)]
theorem akk (b:bR) (nm:aA0):Fn Tryz.prog 90 [yH b,ah 1001] [(1001,.cells [.d (.str nm)])] [] (fk (decide (d4 b=nm))) [(1001,.cells [.d (.str nm)])]:=by
 refine aT [] Tryz.func90 ?_;exact⟨rfl,bc⟩
def k4 {α:Type} (p:α->Bool) (L:List α):Int:=match L.findIdx? p with
 |some k=>(k:Nat)
 |none=> -1
theorem UT {α:Type} {p:α->Bool} {L:List α} {k:Nat} (E:k < L.length) (ae: ∀(i:Nat) b,i < k->L[i]? =some b->p b=false) (h:p L[k]=true):k4 p L=(k:Nat):=by
 unfold k4;rw[show L.findIdx? p=some k from List.findIdx?_eq_some_iff_getElem.2 ⟨E,h,fun j V=>by simpa using ae j _ V (oj aw0)⟩]
theorem akl {α:Type} {p:α->Bool} {L:List α} (ae: ∀(i:Nat) b,i < L.length->L[i]? =some b->p b=false):k4 p L= -1:=by
 unfold k4
 rw[show L.findIdx? p=none from List.findIdx?_eq_none_iff.2 fun x hx=>by
  obtain⟨i,aG,rfl⟩:=List.getElem_of_mem hx;exact ae i _ aG (oj aG)]
theorem w1 {α:Type} (p:α->Bool) (L:List α):(k4 p L= -1/\ ∀(i:Nat) b,L[i]? =some b->p b=false)\/ ∃(k:Nat) (x:α),k4 p L=k/\L[k]? =some x/\p x=true/\ ∀(i:Nat) b,i < k->L[i]? =some b->p b=false:=by
 unfold k4
 cases h:L.findIdx? p with
 |none=>
  refine .inl ⟨rfl,fun i b O=>?_⟩;have:=List.findIdx?_eq_none_iff.1 h b (List.mem_of_getElem? O);simpa using this
 |some k=>
  obtain⟨E,G,al⟩:=List.findIdx?_eq_some_iff_getElem.1 h;refine .inr ⟨k,L[k],rfl,oj E,G,fun i b aG O=>?_⟩;have:=al i aG;rw[oj aw0] at O;injection O with O
  rw[<-O];simpa using this
theorem akm {α:Type} {p:α->Prop} {L:List α} {k:Nat} (E:k < L.length) (ae: ∀(i:Nat) b,i < k->L[i]? =some b->p b) (h:p L[k]): ∀(i:Nat) b,i < k+1->L[i]? =some b->p b:=fun i b aG O=>by
 rcases Nat.lt_or_ge i k with G |G
 .exact ae i b G O
 .have:i=k:=aw8
  subst this;rw[oj E] at O;injection O with O
  rw[<-O];exact h
theorem qa {α:Type} {L:List α} {k:Nat} {n:Int} (hn:n=(k:Nat)) (h:k < L.length):fz L n.toNat=some L[k]:=by
 subst hn;exact oj h
theorem UU (g:Nat) (p:bR->Bool) (nm:aA0) (L:List bR) (cH:L.length<=4294967296) (ax: ∀b,Fn Tryz.prog g [yH b,ah 1001] [(1001,.cells [.d (.str nm)])] [] (fk (p b)) [(1001,.cells [.d (.str nm)])]):
  Fn Tryz.prog 89 [eX 1002,kS (.cY g [.p 1001 0])] [(1001,.cells [.d (.str nm)]),(1002,.row 78 l5 L)] [] (ac (k4 p L)) [(1001,.cells [.d (.str nm)]),(1002,.row 78 l5 L)]:=by
 refine aT [] Tryz.func89 ?_;refine dG [] (X:=Nat) (fun k=>[(0,eX 1002),(1,kS (.cY g [.p 1001 0])),(7,ac (L.length:Nat)),(8,ac (k:Nat))]) (fun _=>[(1001,.cells [.d (.str nm)]),(1002,.row 78 l5 L)]) (fun k=>k<=L.length/\ ∀(i:Nat) b,i < k->L[i]? =some b->p b=false) (fun k=>L.length - k) 0 ⟨aq9 _,fun i b h=>absurd h (av5 _)⟩ ?_ ?_
 .exact ab.sub az az
 .rintro k ⟨Z,ae⟩;refine⟨fun h=>?_,fun h=>?_⟩
  .have E:k < L.length:=aw9
   refine⟨⟨aw0,aw0⟩,L[k],qa rfl E,ak (ax L[k]) ⟨fun h=>?_,fun h=>?_⟩⟩
   .exact ej bq rfl ((UT E ae h).symm)
   .exact⟨aw0,k+1,⟨aw0,akm E ae h⟩,aw0,ab.sub az az⟩
  .have E: ¬k < L.length:=aw9
   exact ej bq rfl ((akl fun i b aG O=>ae i b aw0 O).symm)
def ep (L:List bR) (nm:aA0):Int:=k4 (fun b=>decide (d4 b=nm)) L
theorem HK (nm:aA0) (L:List bR) (cH:L.length<=4294967296):Fn Tryz.prog 46 [ah 1001,bQ nm] (kJ L) [] (ac (ep L nm)) (kJ L):=by
 refine aT [] Tryz.func46 ?_;exact⟨rfl,ak (Fn.aV [(1001,3)] (UU 90 _ nm L cH fun b=>akk b nm)) bc⟩
end
section
def e9 (z:Int):Int:=16*((2 ^z.toNat:Nat):Int)
theorem UV {bi:Int} (av:0<=bi) (E:bi<=3):1<=((2 ^bi.toNat:Nat):Int)/\((2 ^bi.toNat:Nat):Int)<=8:=by
 have:bi=0\/bi=1\/bi=2\/bi=3:=aw8
 rcases this with rfl |rfl |rfl |rfl <;>decide
theorem UW {bi:Int} (av:0<=bi) (E:bi<=3):16<=e9 bi/\e9 bi<=128:=by
 have:=UV av E;unfold e9;omega
def s4 (size n:Int):Int->List je->Bool
 |_,[]=>true
 |oC,p::r=> !(decide (fD p<=oC)||decide (size<=fD p)|| !decide (((jS p).length:Int)=n))&&s4 size n (fD p) r
def ht (b:bR):Bool:=
 g4 (d4 b)&&decide (0<=c4 b)&&decide (c4 b<=3)&&decide (0<=eI b)&&decide (eI b<=256)&&s4 (eI b) (e9 (c4 b)) (-1) (cD b)&&
  (!decide (di b=[])||decide (((cD b).length:Int)=eI b))
theorem Nc (b:bR) (av:0<=c4 b) (E:c4 b<=3):Fn Tryz.prog 47 [yH b] [] [] (ac (e9 (c4 b))) []:=by
 have ae:=UV av E;refine aT [] Tryz.func47 ?_;exact⟨rfl,⟨aw0,aw0,aw0⟩,⟨aw0,aw0⟩,bc⟩
theorem akn (size n oC:Int) (l:List je) (k:Nat) (Z:k < l.length):s4 size n oC (l.drop k)=(!(decide (fD l[k]<=oC)||decide (size<=fD l[k])|| !decide (((jS l[k]).length:Int)=n))&&s4 size n (fD l[k]) (l.drop (k+1))):=by
 rw[List.drop_eq_getElem_cons Z];rfl
theorem ako (b:bR) (hn:(d4 b).length<=4294967296) (ap:(cD b).length<=4294967296) (ae: ∀p,p∈cD b->(jS p).length<=4294967296):Fn Tryz.prog 170 [yH b] [] [] (fk (ht b)) []:=by
 refine aT [] Tryz.func170 ?_;refine⟨rfl,ak (qN _ hn) ⟨fun h=>?_,fun E=>?_⟩⟩
 .exact ej bq rfl (show false=ht b by simp_all [ht])
 refine⟨fun h=>?_,fun G=>?_⟩
 .exact ej bq rfl (show false=ht b by simp at h;simp[ht];omega)
 refine⟨fun h=>?_,fun al=>?_⟩
 .exact ej bq rfl (show false=ht b by simp at h;simp[ht];omega)
 refine⟨fun h=>?_,fun aW=>?_⟩
 .exact ej bq rfl (show false=ht b by simp at h;simp[ht];omega)
 refine⟨fun h=>?_,fun bG=>?_⟩
 .exact ej bq rfl (show false=ht b by simp at h;simp[ht];omega)
 simp only[decide_eq_false_iff_not,Bool.not_eq_false'] at E G al aW bG
 have aC:ht b=(s4 (eI b) (e9 (c4 b)) (-1) (cD b)&&(!decide (di b=[])||decide (((cD b).length:Int)=eI b))):=by
  unfold ht;rw[E,ar6 (show 0<=c4 b by omega),ar6 (show c4 b<=3 by omega),ar6 (show 0<=eI b by omega),ar6 (show eI b<=256 by omega)];simp
 refine dG [] (X:=Nat×Int) (fun x=>[(1,ah 1),(31,bv oB (cD b)),(3,ac x.2),(32,ac ((cD b).length:Nat)),(33,ac (x.1:Nat))]) (fun _=>[(1,.cells (HJ b))]) (fun x=>x.1<=(cD b).length/\s4 (eI b) (e9 (c4 b)) (-1) (cD b)=s4 (eI b) (e9 (c4 b)) x.2 ((cD b).drop x.1)) (fun x=>(cD b).length - x.1) (0,-1) ⟨aq9 _,rfl⟩ ?_ ?_
 .exact ab.sub az az
 rintro⟨k,oC⟩ ⟨Z,aG⟩;refine⟨fun h=>?_,fun h=>?_⟩
 .have b':k < (cD b).length:=aw9
  rw[akn _ _ _ _ _ b'] at aG;have hm:=ae _ (as3 b');refine⟨aw0,(cD b)[k],qa rfl b',rfl,fun h=>?_,fun fP=>?_⟩
  .refine⟨rfl,?_⟩;exact ej bq rfl (show false=ht b by rw[aC,aG,h];rfl)
  refine⟨fun h=>?_,fun ji=>?_⟩
  .refine⟨rfl,?_⟩;exact ej bq rfl (show false=ht b by rw[aC,aG,fP,h];rfl)
  refine⟨_,_,_,_,Nc b aw0 aw0,trivial,rfl,rfl,fun h=>?_,fun gJ=>?_⟩
  .exact ej bq rfl (show false=ht b by rw[aC,aG,fP,ji,show(!decide (((jS (cD b)[k]).length:Int)=e9 (c4 b)))=true from h];rfl)
  .refine⟨aw0,(k+1,fD (cD b)[k]),⟨by simp only;omega,?_⟩,by simp only;omega,?_⟩
   .rw[aG,fP,ji,show(!decide (((jS (cD b)[k]).length:Int)=e9 (c4 b)))=false from gJ];rfl
   .exact ab.sub az az
 .have b': ¬k < (cD b).length:=aw9
  rw[List.drop_eq_nil_of_le aw0] at aG;refine⟨fun h=>?_,fun h=>?_⟩
  .exact ej bq rfl (show true=ht b by rw[aC,aG,show(!decide (di b=[]))=true from h];rfl)
  .exact ej bq rfl (show decide (((cD b).length:Int)=eI b)=ht b by rw[aC,aG,show(!decide (di b=[]))=false from h];rfl)
end
section
theorem Nd:Fn Tryz.prog 30 [] [] [1001,1002] (ah 1001) (kJ []):=by
 refine aT [] Tryz.func30 ?_;exact⟨rfl,_,_,_,ab.trans (ab.wc 2 0 1002 78 l5 rfl rfl rfl) (ab.aV 2 1001 rfl),rfl,rfl,az,rfl⟩
def qT (L:List bR):aA0:=match L.getLast? with
 |some b=>d4 b
 |none=>[]
theorem akp (L:List bR) (cH:L.length<=4294967296):Fn Tryz.prog 20 [ah 1001] (kJ L) [] (bQ (qT L)) (kJ L):=by
 refine aT [] Tryz.func20 ?_;refine⟨fun h=>?_,fun h=>?_⟩
 .have av:L.length=0:=by simp only[as1] at h;omega
  refine⟨_,_,_,bq,rfl,?_,az,rfl⟩;rw[List.eq_nil_of_length_eq_zero av];rfl
 .have av:0 < L.length:=by simp only[decide_eq_false_iff_not] at h;omega
  have bx:L.length - 1 < L.length:=aw8
  refine⟨aw0,⟨aw0,aw0⟩,L[L.length - 1],qa (k:=L.length - 1) aw0 bx,rfl,_,_,_,bq,rfl,?_,az,rfl⟩;show d4 L[L.length - 1]=qT L;unfold qT;rw[List.getLast?_eq_getElem?,oj bx]
def gn (L:List bR) (b:bR):Int:=
 if(!ht b||decide (0<=ep L (d4 b))||decide (64<=(L.length:Int)))=true then 1
 else if(!decide (di b=[])&&decide (ep L (di b) < 0))=true then 181
 else if(!decide (di b=[])&& !decide ((match fz L (ep L (di b)).toNat with |some x=>c4 x |none=>c4 b)=c4 b))=true then 1 else 0
def fX (L:List bR) (b:bR):List bR:=if gn L b=0 then L++[b] else L
theorem UX {L:List bR} {b:bR} (h:(!ht b)=true):gn L b=1:=by unfold gn;rw[if_pos (by simp[h])]
theorem UY {L:List bR} {b:bR} (h:decide (0<=ep L (d4 b))=true):gn L b=1:=by unfold gn;rw[if_pos (by simp[h])]
theorem UZ {L:List bR} {b:bR} (h:decide (64<=(L.length:Int))=true):gn L b=1:=by unfold gn;rw[if_pos (by simp[h])]
theorem DQ {b:bR} (h:ht b=true):0<=c4 b/\c4 b<=3/\0<=eI b/\eI b<=256:=by
 simp only[ht,vj,as1] at h;omega
abbrev U0 (L:List bR):ay:=[(1001,.cells [.own 1003]),(1003,.row 78 l5 L)]
theorem vr {α:Type} {l:List α} {k:Nat} (h:k < l.length):l.take k++[l[k]]=l.take (k+1):=by
 rw[List.take_add_one,oj h];rfl
abbrev Nf (b:bR) (r k:Nat):aX:=[(0,ah 1001),(3,ah 3),(6,eX r),(58,bv oB (cD b)),(59,ac ((cD b).length:Nat)),(60,ac (k:Nat))]
abbrev Ng (L:List bR) (b:bR) (r:Nat) (l:List je):ay:=[(r,.row 96 oB l),(3,.cells (HJ b)),(1001,.cells [.own 1002]),(1002,.row 78 l5 L)]
theorem Nh (L:List bR) (b:bR) (cH:L.length<=1000000) (hn:(d4 b).length<=4294967296) (ap:(cD b).length<=1000000) (ae: ∀p,p∈cD b->(jS p).length<=4294967296):
  Fn Tryz.prog 122 [ah 1001,yH b] (kJ L) [1003] (ac (gn L b)) (U0 (fX L b)):=by
 have fH: ∀e,gn L b=e->e≠0->fX L b=L:=fun e E G=>by unfold fX;rw[if_neg aw0]
 refine aT [14] Tryz.func122 ?_;refine⟨rfl,ak (HK (di b) L aw0) <| ak (ako b hn aw0 ae) ⟨fun h=>?_,fun E=>?_⟩⟩
 .rw[fH 1 (UX h) aw0,UX h];exact⟨_,_,_,ab.aV 1002 1003 rfl,rfl,rfl,az,rfl⟩
 refine ak (HK (d4 b) L aw0) ⟨fun h=>?_,fun G=>?_⟩
 .rw[fH 1 (UY h) aw0,UY h];exact⟨_,_,_,ab.aV 1002 1003 rfl,rfl,rfl,az,rfl⟩
 refine⟨fun h=>?_,fun al=>?_⟩
 .rw[fH 1 (UZ h) aw0,UZ h];exact⟨_,_,_,ab.aV 1002 1003 rfl,rfl,rfl,az,rfl⟩
 have aZ:gn L b=if(!decide (di b=[])&&decide (ep L (di b) < 0))=true then 181 else if(!decide (di b=[])&& !decide ((match fz L (ep L (di b)).toNat with |some x=>c4 x |none=>c4 b)=c4 b))=true then 1 else 0:=by
  unfold gn;rw[if_neg (by rw[show(!ht b)=false from E,show decide (0<=ep L (d4 b))=false from G,show decide (64<=(L.length:Int))=false from al];simp)]
 have aC:ht b=true:=ay8
 obtain⟨r1,r2,fV,j1⟩:=DQ aC;have qU:gn L b=0->fX L b=L++[b]:=fun h=>by unfold fX;rw[if_pos h]
 refine⟨fun aW=>?a,fun aW=>?b⟩
 case' a=>
  refine⟨fun h=>?_,fun bG=>?_⟩
  .rw[show(!decide (di b=[]))=true from aW,show decide (ep L (di b) < 0)=true from h] at aZ;have aZ:gn L b=181:=aZ;rw[fH 181 aZ aw0,aZ];exact⟨_,_,_,ab.aV 1002 1003 rfl,rfl,rfl,az,rfl⟩
  have fP: ¬ep L (di b) < 0:=by simpa using bG
  have Z: ∃k:Nat,∃Z:k < L.length,ep L (di b)=(k:Nat):=by
   rcases w1 (fun x=>decide (d4 x=di b)) L with⟨h,_⟩ |⟨k,x,h,hx,_⟩
   .exact absurd (show ep L (di b) < 0 by unfold ep;omega) fP
   .exact⟨k,(ar1.1 hx).1,h⟩
  obtain⟨k,Z,yI⟩:=Z;rw[show(!decide (di b=[]))=true from aW,show decide (ep L (di b) < 0)=false from bG,qa yI Z] at aZ;have aZ:gn L b=if(!decide (c4 L[k]=c4 b))=true then 1 else 0:=aZ
  refine⟨fun ji=>⟨⟨aw0,aw0⟩,L[k],qa yI Z,rfl,fun h=>?_,fun h=>?_⟩,fun ji=>absurd aW (by rw[show(!decide (di b=[]))=false from ji];simp)⟩
  .rw[show(!decide (c4 L[k]=c4 b))=true from h] at aZ;have aZ:gn L b=1:=aZ;rw[fH 1 aZ aw0,aZ];exact⟨_,_,_,ab.aV 1002 1003 rfl,rfl,rfl,az,rfl⟩
  rw[show(!decide (c4 L[k]=c4 b))=false from h] at aZ;have d5:gn L b=0:=aZ;clear aZ h
 case' b=>
  rw[show(!decide (di b=[]))=false from aW] at aZ;have d5:gn L b=0:=aZ;clear aZ;refine⟨fun ji=>absurd aW (by rw[show(!decide (di b=[]))=true from ji];simp),fun ji=>⟨rfl,?_⟩⟩
 all_goals
  rw[qU d5,d5];refine dG [14] (X:=Nat) (Nf b 2002) (fun k=>Ng L b 2002 ((cD b).take k)) (fun k=>k<=(cD b).length) (fun k=>(cD b).length - k) 0 (aq9 _) ?_ ?_
  .exact ab.trans (ab.nil 6 2002 96 oB rfl rfl) (ab.sub az az)
  intro j V;refine⟨fun h=>?_,fun h=>?_⟩
  .have eS:j < (cD b).length:=aw9
   have hm:=ae _ (as3 eS);refine⟨aw0,(cD b)[j],qa rfl eS,rfl,ak (L0 _ hm) ⟨?_,rfl,rfl,?_⟩⟩
   .show((cD b).take j).length+1<=4294967296;rw[ar3];omega
   .exact⟨aw0,j+1,eS,aw0,ab.trans (ab.sub (K':=Nf b 72 (j+1)) (B':=Ng L b 72 ((cD b).take (j+1))) az ⟨congrArg (fun l=>some (ba.row _ oB l)) (vr eS),rfl,rfl,rfl,trivial⟩) (ab.aV 72 2002 rfl)⟩
  .have eS:j=(cD b).length:=by
     have: ¬j < (cD b).length:=aw9
     omega
   subst eS;refine br [] (ab.trans (ab.sub (K':=Nf b 2002 (cD b).length) (B':=Ng L b 2002 (cD b)) az ⟨congrArg (fun l=>some (ba.row _ oB l)) as2,rfl,rfl,rfl,trivial⟩) (ab.d3 2002 rfl)) ⟨?_,rfl,rfl,?_⟩
   .show L.length+1<=4294967296;omega
   .exact⟨_,_,_,ab.aV 83 1003 rfl,rfl,rfl,az,rfl⟩
end
section
theorem Ni (size n:Int): ∀(l:List je) (oC:Int),s4 size n oC l=true-> ∀p,p∈l->oC < fD p/\fD p < size/\((jS p).length:Int)=n
 | [],_,_,p,ae=>by cases ae
 |q::l,oC,h,p,ae=>by
  simp only[s4,vj,Bool.not_eq_true',Bool.or_eq_false_iff,decide_eq_false_iff_not,Bool.not_eq_false',as1] at h;obtain⟨⟨⟨E,G⟩,al⟩,aW⟩:=h;rcases aq7.1 ae with rfl |ae
  .exact⟨aw0,aw0,al⟩
  .have:=Ni size n l (fD q) aW p ae;exact⟨aw0,this.2.1,this.2.2⟩
def mC (oD:Int) (acc:aA0) (p:je):aA0:=laid acc (fD p*oD).toNat (acc.length - (fD p*oD).toNat) (jS p)
def s5 (b:bR) (below:aA0):aA0:=
 let aB:=List.replicate (eI b*e9 (c4 b)).toNat (0:UInt8)
 (cD b).foldl (mC (e9 (c4 b))) (if decide (di b=[])=true then aB else laid aB 0 aB.length below)
def l6 (L:List bR) (i:Int):Option bR:=if 0<=i then fz L i.toNat else none
def s6 (L:List bR) (nm:aA0) (bK:aA0->aA0):aA0:=match l6 L (ep L nm) with
 |none=>[]
 |some b=>s5 b (bK (di b))
def r8 (L:List bR) (nm:aA0):Int:=if decide (ep L nm < 0)=true then 181 else 0
def HL (out:aA0) (e:Int):aO:=.cb [.one (.d (.cf .u8 out)),.one (.d (.int .i64 e))]
theorem U1 {size oD:Int} {b:aA0} {p:je} (av:0<=oD) (E:0<=fD p) (G:fD p < size) (O:b.length=(size*oD).toNat):(fD p*oD).toNat<=b.length/\(mC oD b p).length=b.length:=by
 have:fD p*oD<=size*oD:=Int.mul_le_mul_of_nonneg_right aw0 av;have al:(fD p*oD).toNat<=b.length:=aw8
 exact⟨al,JZ _ _ aw0⟩
theorem U2 {size oD:Int} (av:0<=oD): ∀(l:List je) (acc:aA0),(∀p,p∈l->0<=fD p/\fD p < size)->acc.length=(size*oD).toNat->(l.foldl (mC oD) acc).length=(size*oD).toNat
 | [],acc,_,ha=>ha
 |p::l,acc,ae,ha=>U2 av l (mC oD acc p) (fun q aP=>ae q (aq6 _ aP)) (by
  have:=ae p ar4;rw[(U1 av this.1 this.2 ha).2,ha])
theorem akq {α lT:Type} (f:lT->α->lT) (x:lT) {l:List α} {k:Nat} (h:k < l.length):(l.take (k+1)).foldl f x=f ((l.take k).foldl f x) l[k]:=by
 rw[<-vr h,av3];rfl
abbrev akr (b:bR) (k:Nat):aX:=[(7,ah 7),(8,eX 30),(45,bv oB (cD b)),(46,ac ((cD b).length:Nat)),(47,ac (k:Nat))]
abbrev aks (L:List bR) (b:bR) (x:aA0):ay:=[(30,.row 5 .u8 x),(7,.cells (HJ b)),(1001,.cells [.own 1002]),(1002,.row 78 l5 L)]
theorem U3 (L:List bR) (nm:aA0) (cH:L.length<=1000000) (aC: ∀b,b∈L->ht b=true/\(cD b).length<=1000000) (bK:aA0->aA0)
  (bu: ∀b,l6 L (ep L nm)=some b->(!decide (di b=[]))=true->Fn Tryz.prog 17 [ah 1001,bQ (di b)] (kJ L) [] (HL (bK (di b)) (r8 L (di b))) (kJ L)):
  Fn Tryz.prog 17 [ah 1001,bQ nm] (kJ L) [] (HL (s6 L nm bK) (r8 L nm)) (kJ L):=by
 refine aT [] Tryz.func17 ?_;refine ak (HK nm L aw0) ⟨fun h=>?_,fun h=>?_⟩
 .have E: ¬0<=ep L nm:=by simp only[as1] at h;omega
  exact ej bq rfl ⟨(show s6 L nm bK=[] by unfold s6 l6;rw[if_neg E]),(show(181:Int)=r8 L nm by unfold r8;rw[if_pos h]),trivial⟩
 have hf: ¬ep L nm < 0:=aw9
 have Z: ∃k:Nat,∃Z:k < L.length,ep L nm=(k:Nat):=by
  rcases w1 (fun x=>decide (d4 x=nm)) L with⟨h,_⟩ |⟨k,x,h,hx,_⟩
  .exact absurd (show ep L nm < 0 by unfold ep;omega) hf
  .exact⟨k,(ar1.1 hx).1,h⟩
 obtain⟨k,Z,yI⟩:=Z;have aY:l6 L (ep L nm)=some L[k]:=by unfold l6;rw[if_pos aw0];exact qa yI Z
 have aZ:r8 L nm=0:=by unfold r8;rw[if_neg (by rw[h];simp)]
 have au:s6 L nm bK=s5 L[k] (bK (di L[k])):=by unfold s6;rw[aY]
 have bu:=bu _ aY;rw[aZ,au];refine⟨⟨aw0,aw0⟩,L[k],qa yI Z,?_⟩;obtain⟨yB,hm⟩:=aC _ (as3 Z);generalize li:L[k]=b at*;obtain⟨r1,r2,fV,j1⟩:=DQ yB;obtain⟨cJ,cG⟩:=UW r1 r2
 have Un:0<=eI b*e9 (c4 b)/\eI b*e9 (c4 b)<=32768:=⟨Int.mul_nonneg aw0 aw0,by
  have:eI b*e9 (c4 b)<=256*128:=Int.mul_le_mul j1 cG aw0 aw0;omega⟩
 have aR:(List.replicate (eI b*e9 (c4 b)).toNat (0:UInt8)).length=(eI b*e9 (c4 b)).toNat:=at1
 have U4: ∀p,p∈cD b->0<=fD p/\fD p < eI b:=fun p ae=>by
  have yB:=yB;simp only[ht,vj] at yB;have:=Ni _ _ _ _ yB.1.2 p ae;omega
 refine⟨rfl,ak (Nc b r1 r2) ?_⟩;have akt: -9223372036854775808<=eI b*e9 (c4 b)/\eI b*e9 (c4 b)<=9223372036854775807:=aw8
 have aku:eI b*e9 (c4 b)<=4294967296:=aw8
 refine⟨akt,⟨rfl,Un.1,aku⟩,rfl,rfl,fun aW=>?a,fun aW=>?b⟩
 case' a=>
  refine ak (bu aW) ⟨aw0,?_⟩
  have O: ∃y,s5 b (bK (di b))=(cD b).foldl (mC (e9 (c4 b))) y/\y=laid (List.replicate (eI b*e9 (c4 b)).toNat (0:UInt8)) 0 (List.replicate (eI b*e9 (c4 b)).toNat (0:UInt8)).length (bK (di b))/\y.length=(eI b*e9 (c4 b)).toNat:=⟨_,by
   unfold s5;simp only;rw[show decide (di b=[])=false by simpa using aW];rfl,rfl,(JZ _ _ aw0).trans aR⟩
  obtain⟨y,H,aD,Sp⟩:=O
 case' b=>
  have O: ∃y,s5 b (bK (di b))=(cD b).foldl (mC (e9 (c4 b))) y/\y=(List.replicate (eI b*e9 (c4 b)).toNat (0:UInt8))/\y.length=(eI b*e9 (c4 b)).toNat:=⟨_,by
   unfold s5;simp only;rw[show decide (di b=[])=true by simpa using aW];rfl,rfl,aR⟩
  obtain⟨y,H,aD,Sp⟩:=O
 all_goals
  rw[H];refine dG [] (X:=Nat) (akr b) (fun k=>aks L b (((cD b).take k).foldl (mC (e9 (c4 b))) y)) (fun k=>k<=(cD b).length) (fun k=>(cD b).length - k) 0 (aq9 _) ?_ ?_
  .exact ab.sub az ⟨congrArg (fun l=>some (ba.row _ .u8 l)) aD.symm,rfl,rfl,rfl,trivial⟩
  intro j V;refine⟨fun h=>?_,fun h=>?_⟩
  .have eS:j < (cD b).length:=aw9
   have Bc:=U4 _ (as3 eS);have LR:(((cD b).take j).foldl (mC (e9 (c4 b))) y).length=(eI b*e9 (c4 b)).toNat:=U2 aw0 _ _ (fun p ae=>U4 p (List.mem_of_mem_take ae)) aw0;obtain⟨cC,cF⟩:=U1 aw0 Bc.1 Bc.2 LR;have akv:0<=fD (cD b)[j]*e9 (c4 b):=Int.mul_nonneg Bc.1 aw0;have akw: -9223372036854775808<=fD (cD b)[j]*e9 (c4 b)/\fD (cD b)[j]*e9 (c4 b)<=9223372036854775807:=aw8
   refine⟨aw0,(cD b)[j],qa rfl eS,rfl,ak (Nc b r1 r2) ⟨akw,⟨akv,?_⟩,?_⟩⟩
   .show fD (cD b)[j]*e9 (c4 b)<=((((cD b).take j).foldl (mC (e9 (c4 b))) y).length:Int);omega
   refine⟨?_,rfl,?_⟩
   .show(fD (cD b)[j]*e9 (c4 b)).toNat+((((cD b).take j).foldl (mC (e9 (c4 b))) y).length - (fD (cD b)[j]*e9 (c4 b)).toNat)<=(((cD b).take j).foldl (mC (e9 (c4 b))) y).length;omega
   .exact⟨aw0,j+1,eS,aw0,ab.sub az ⟨congrArg (fun l=>some (ba.row _ .u8 l)) (akq (mC (e9 (c4 b))) y eS).symm,rfl,rfl,rfl,trivial⟩⟩
  .have eS:j=(cD b).length:=by
     have: ¬j < (cD b).length:=aw9
     omega
   subst eS;exact⟨_,_,_,ab.trans (ab.d3 30 rfl) (bq),rfl,⟨(show((cD b).take (cD b).length).foldl (mC (e9 (c4 b))) y=(cD b).foldl (mC (e9 (c4 b))) y by rw[as2]),rfl,trivial⟩,az,rfl⟩
def w2 (L:List bR):Nat->aA0->aA0
 |0,_=>[]
 |n+1,nm=>s6 L nm (w2 L n)
structure lE (L:List bR):Prop where
 len:L.length<=64
 right: ∀b,b∈L->ht b=true
 DR: ∀(k:Nat) b,L[k]? =some b->decide (di b=[])=false->0<=ep L (di b)/\ep L (di b) < k
theorem U5 {b:bR} (h:ht b=true):(cD b).length<=256:=by
 have G:=DQ h;simp only[ht,vj] at h
 have key: ∀(l:List je) (oC:Int),s4 (eI b) (e9 (c4 b)) oC l=true->(l.length:Int)<=max 0 (eI b - 1 - oC):=by
  intro l
  induction l with
  |nil=>intro oC _;simp only[List.length_nil];omega
  |cons p l bu=>
   intro oC h;simp only[s4,vj,Bool.not_eq_true',Bool.or_eq_false_iff,decide_eq_false_iff_not] at h;have:=bu _ h.2;simp only[au1];omega
 have:=key _ _ h.1.2;omega
theorem Nj (L:List bR) (nm:aA0):ep L nm < L.length:=by
 rcases w1 (fun x=>decide (d4 x=nm)) L with⟨h,_⟩ |⟨k,x,h,hx,_⟩
 .unfold ep;omega
 .have:=(ar1.1 hx).1;unfold ep;omega
theorem U6 {L:List bR} {i:Int} {b:bR} (h:l6 L i=some b): ∃k:Nat,i=k/\L[k]? =some b:=by
 unfold l6 at h
 split at h
 .exact⟨i.toNat,aw0,h⟩
 .cases h
theorem akx {L:List bR} (a2:lE L): ∀(n:Nat) (nm:aA0),ep L nm < n->Fn Tryz.prog 17 [ah 1001,bQ nm] (kJ L) [] (HL (w2 L n nm) (r8 L nm)) (kJ L):=by
 have cH:L.length<=1000000:=by have:=a2.len;omega
 have aC: ∀b,b∈L->ht b=true/\(cD b).length<=1000000:=fun b O=>⟨a2.right b O,by have:=U5 (a2.right b O);omega⟩
 intro n
 induction n with
 |zero=>
  intro nm h;have av:l6 L (ep L nm)=none:=by unfold l6;rw[if_neg aw0]
  have:=U3 L nm cH aC (fun _=>[]) (fun b O=>by rw[av] at O;cases O);rw[show s6 L nm (fun _=>[])=[] by unfold s6;rw[av]] at this;exact this
 |succ n bu=>
  intro nm h
  exact U3 L nm cH aC (w2 L n) (fun b O ae=>bu (di b) (by
   obtain⟨k,Z,O⟩:=U6 O;have:=(a2.DR k b O (by simpa using ae)).2;omega))
def vs (L:List bR) (nm:aA0):aA0:=w2 L (L.length+1) nm
theorem U7 {L:List bR} (a2:lE L) (nm:aA0):Fn Tryz.prog 17 [ah 1001,bQ nm] (kJ L) [] (HL (vs L nm) (r8 L nm)) (kJ L):=
 akx a2 _ nm (by have:=Nj L nm;omega)
end
end Go.Proofs.YtkfbeijmgggkmaaGreat
