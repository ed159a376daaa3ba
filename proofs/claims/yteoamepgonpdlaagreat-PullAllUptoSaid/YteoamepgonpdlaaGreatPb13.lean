/-
Part 13 of the proof that stands in YteoamepgonpdlaaGreatPbRow, with what it needs from the parts ahead; the parts of this text: Qa, Qb, Qc, Qd, Qe, Rw.
-/
import Derived.Test.YteoamepgonpdlaaGreatPb12
/-!
  The document's image (layer 12): its values; Refs, Free, Inside, own, inside, cluster, laid, set, put.
-/
namespace Go.Proofs.YteoamepgonpdlaaGreat
set_option linter.unusedVariables false
set_option linter.unusedSimpArgs false
set_option maxRecDepth 10000
open Go.RowKit Go.Proofs
@[reducible] def uCe : U:=.pr uI uI
@[reducible] def uSn : U:=.pr .str (.sl uCe)
@[reducible] def uIm : U:=.pr uI (.pr uI (.pr (.sl uCe) (.pr (.sl uSn) (.sl .str))))
abbrev Cell:=El uCe
abbrev Rim:=El uIm
@[reducible] def ceK (c : Cell) : Int:=c.1
@[reducible] def ceI (c : Cell) : Int:=c.2
@[reducible] def mkCe (k i : Int) : Cell:=(k,i)
@[reducible] def mN (m : Rim) : Int:=m.1
@[reducible] def mR (m : Rim) : Int:=m.2.1
@[reducible] def mC (m : Rim) : List Cell:=m.2.2.1
@[reducible] def mS (m : Rim) : List (El uSn):=m.2.2.2.1
@[reducible] def mD (m : Rim) : List (List UInt8):=m.2.2.2.2
@[reducible] def mkM (n r : Int) (cs : List Cell) (ss : List (El uSn)) (ds : List (List UInt8)) : Rim:=(n,r,cs,ss,ds)
@[reducible] def imL (m : Rim) : List S1:=[.d (.int .i64 (mN m)),.d (.int .i64 (mR m)),.d (.lst uCe (mC m)),.d (.lst uSn (mS m)),.d (.lst .str (mD m))]
@[reducible] def imV (m : Rim) : SV:=.c (.agg (imL m))
/-- An image of the document: of clusters of n sectors,without snapshots. -/
structure MOK (n : Nat) (m : Rim) : Prop where
 nm : mN m = (n : Int)
 n1 : 1 ≤ n
 n8 : n ≤ 8
 cl : (mC m).length ≤ 256
 sn : mS m = []
 dl : (mD m).length ≤ 100000
 wd : ∀ x,x ∈ mD m → x.length = 16 * n
 ix : ∀ c,c ∈ mC m → ceK c = 1 → ∃ i : Nat,ceI c = (i : Int) ∧ i < (mD m).length
 r0 : 0 ≤ mR m
 r1 : mR m ≤ 512
/-- How many cells have a number. -/
def refsC (cs : List Cell) (id : Int) : Nat:=(cs.filter fun c=>decide (ceK c = 1) && decide (ceI c = id)).length
theorem refsC_succ {cs : List Cell} {k : Nat} (h : k < cs.length) (id : Int) : refsC (cs.take (k + 1)) id = refsC (cs.take k) id + (if ceK cs[k] = 1 ∧ ceI cs[k] = id then 1 else 0):=by
 unfold refsC
 rw [List.take_succ_eq_append_getElem h,List.filter_append,List.length_append]
 congr 1
 by_cases h1 : ceK cs[k] = 1 <;> by_cases h2 : ceI cs[k] = id <;> simp [h1,h2]
theorem refsC_le (cs : List Cell) (id : Int) : refsC cs id ≤ cs.length:=List.length_filter_le _ _
@[reducible] def rfK (id : Int) (n k : Nat) : KL:=[(1,vI id),(2,vP 2),(5,vI (n : Nat)),(6,vI (k : Nat))]
theorem mrefs_fn (m : Rim) (id : Int) (hc : (mC m).length ≤ 1000000) (hs : mS m = []) : Fn Tryz.prog 150 [imV m,vI id] [] [] (vI (refsC (mC m) id : Nat)) []:=by
 refine Fn.of tblOK [] _ _ _ _ _ Tryz.func150 rfl rfl (by kernel_rfl) (by kernel_rfl) rfl (drawOK tblOK) rfl ?_
 refine ⟨rfl,?_⟩
 show TrQ _ _ _ _ _ _ _
 refine TrQ.loop tblOK (drawOK tblOK) [] (by kernel_rfl) (X:=Nat) (fun k=>rfK id (refsC ((mC m).take k) id) k) (fun _=>[(2,.cells (imL m))]) (fun k=>k ≤ (mC m).length) (fun k=>(mC m).length - k) 0 (Nat.zero_le _) ?_ ?_
 · exact Le.sub ⟨rfl,rfl,rfl,rfl,trivial⟩ ⟨rfl,trivial⟩
 intro k hk
 have hr:=refsC_le ((mC m).take k) id
 rw [List.length_take] at hr
 refine ⟨fun h=>?_,fun h=>?_⟩
 · have h : decide ((k : Int) < ((mC m).length : Nat)) = true:=h
   have hk1 : k < (mC m).length:=by simpa using h
   have hsn:=refsC_succ hk1 id
   refine ⟨by omega,(mC m)[k],lgAt (n:=k) hk1,?_⟩
   refine ⟨fun h2=>?_,fun h2=>?_⟩
   · have h2 : ceK (mC m)[k] = 1:=of_decide_eq_true h2
     refine ⟨by omega,(mC m)[k],lgAt (n:=k) hk1,?_⟩
     refine ⟨fun h3=>?_,fun h3=>?_⟩
     · have h3 : ceI (mC m)[k] = id:=of_decide_eq_true h3
       rw [if_pos ⟨h2,h3⟩] at hsn
       refine ⟨by omega,?_⟩
       refine ⟨by omega,k + 1,by omega,by omega,Le.sub ⟨rfl,rfl,?_,rfl,trivial⟩ ⟨rfl,trivial⟩⟩
       show ((refsC ((mC m).take k) id : Nat) : Int) + 1 = ((refsC ((mC m).take (k + 1)) id : Nat) : Int)
       omega
     · have h3 : ¬ ceI (mC m)[k] = id:=of_decide_eq_false h3
       rw [if_neg (fun e=>h3 e.2)] at hsn
       refine ⟨by omega,k + 1,by omega,by omega,Le.sub ⟨rfl,rfl,?_,rfl,trivial⟩ ⟨rfl,trivial⟩⟩
       show ((refsC ((mC m).take k) id : Nat) : Int) = ((refsC ((mC m).take (k + 1)) id : Nat) : Int)
       omega
   · have h2 : ¬ ceK (mC m)[k] = 1:=of_decide_eq_false h2
     rw [if_neg (fun e=>h2 e.1)] at hsn
     refine ⟨by omega,k + 1,by omega,by omega,Le.sub ⟨rfl,rfl,?_,rfl,trivial⟩ ⟨rfl,trivial⟩⟩
     show ((refsC ((mC m).take k) id : Nat) : Int) = ((refsC ((mC m).take (k + 1)) id : Nat) : Int)
     omega
 · have h : decide ((k : Int) < ((mC m).length : Nat)) = false:=h
   have hk1 : k = (mC m).length:=by simp at h; omega
   subst hk1
   show TrQ _ _ _ _ _ _ _
   refine TrQ.loop tblOK (drawOK tblOK) [] (by kernel_rfl) (X:=Unit) (fun _=>[(5,vI (refsC (mC m) id : Nat)),(2,vP 2),(7,vI 0)]) (fun _=>[(2,.cells (imL m))]) (fun _=>True) (fun _=>0) () trivial ?_ ?_
   · exact Le.sub ⟨congrArg (fun l : List Cell=>((refsC l id : Nat) : Int)) List.take_length,rfl,rfl,trivial⟩ ⟨rfl,trivial⟩
   rintro ⟨⟩ -
   refine ⟨fun h=>?_,fun _=>?_⟩
   · exfalso
     have h : decide ((0 : Int) < ((mS m).length : Nat)) = true:=h
     rw [hs] at h
     exact absurd h (by decide)
   · exact ⟨_,_,_,Le.refl _ _,rfl,rfl,trivial,rfl⟩
/-- How many of the first k numbers stand somewhere. -/
def usedN (m : Rim) : Nat → Nat
 | 0=>0
 | k + 1=>usedN m k + (if refsC (mC m) (k : Nat) > 0 then 1 else 0)
theorem usedN_le (m : Rim) : ∀ k,usedN m k ≤ k
 | 0=>Nat.le_refl _
 | k + 1=>by
   have:=usedN_le m k
   unfold usedN
   split <;> omega
def freeM (m : Rim) : Int:=mR m - (usedN m (mD m).length : Nat)
@[reducible] def qfrK (n : Int) (k : Nat) : KL:=[(1,vP 1),(3,vI n),(4,vI (k : Nat))]
theorem mfree_fn {n : Nat} {m : Rim} (h : MOK n m) : Fn Tryz.prog 140 [imV m] [] [] (vI (freeM m)) []:=by
 have hc:=h.cl
 have hd:=h.dl
 have r0:=h.r0
 have r1:=h.r1
 refine Fn.of tblOK [] _ _ _ _ _ Tryz.func140 rfl rfl (by kernel_rfl) (by kernel_rfl) rfl (drawOK tblOK) rfl ?_
 refine ⟨rfl,?_⟩
 show TrQ _ _ _ _ _ _ _
 refine TrQ.loop tblOK (drawOK tblOK) [] (by kernel_rfl) (X:=Nat) (fun k=>qfrK (mR m - (usedN m k : Nat)) k) (fun _=>[(1,.cells (imL m))]) (fun k=>k ≤ (mD m).length) (fun k=>(mD m).length - k) 0 (Nat.zero_le _) ?_ ?_
 · refine Le.sub ⟨rfl,?_,rfl,trivial⟩ ⟨rfl,trivial⟩
   show mR m = mR m - ((0 : Nat) : Int)
   omega
 intro k hk
 have hu:=usedN_le m k
 refine ⟨fun h1=>?_,fun h1=>?_⟩
 · have h1 : decide ((k : Int) < ((mD m).length : Nat)) = true:=h1
   have hk1 : k < (mD m).length:=by simpa using h1
   refine ⟨_,_,_,_,mrefs_fn m (k : Nat) (by omega) h.sn,trivial,rfl,?_⟩
   have e : usedN m (k + 1) = usedN m k + (if refsC (mC m) (k : Nat) > 0 then 1 else 0):=rfl
   refine ⟨fun h2=>?_,fun h2=>?_⟩
   · have h2 : (0 : Int) < (refsC (mC m) (k : Nat) : Nat):=of_decide_eq_true h2
     rw [if_pos (by omega)] at e
     refine ⟨by omega,?_⟩
     refine ⟨by omega,k + 1,by omega,by omega,Le.sub ⟨rfl,?_,rfl,trivial⟩ ⟨rfl,trivial⟩⟩
     show mR m - (usedN m k : Nat) - 1 = mR m - (usedN m (k + 1) : Nat)
     omega
   · have h2 : ¬ (0 : Int) < (refsC (mC m) (k : Nat) : Nat):=of_decide_eq_false h2
     rw [if_neg (by omega)] at e
     refine ⟨by omega,k + 1,by omega,by omega,Le.sub ⟨rfl,?_,rfl,trivial⟩ ⟨rfl,trivial⟩⟩
     show mR m - (usedN m k : Nat) = mR m - (usedN m (k + 1) : Nat)
     omega
 · have h1 : decide ((k : Int) < ((mD m).length : Nat)) = false:=h1
   have hk1 : k = (mD m).length:=by simp at h1; omega
   subst hk1
   exact ⟨_,_,_,Le.refl _ _,rfl,rfl,trivial,rfl⟩
/-- What is amiss with sectors,of n times c. -/
def insE (n c : Nat) (a l : Int) : Int:=if l < 0 then 1 else if a < 0 then 121 else if ((n * c : Nat) : Int) < a then 121 else if ((n * c : Nat) : Int) - a < l then 121 else 0
theorem minside_fn {n : Nat} {m : Rim} (h : MOK n m) (a l : Int) : Fn Tryz.prog 97 [imV m,vI a,vI l] [] [] (vI (insE n (mC m).length a l)) []:=by
 have hc:=h.cl
 have hn:=h.n8
 have hb : n * (mC m).length ≤ 8 * 256:=Nat.mul_le_mul hn hc
 have e0 : mN m * ((mC m).length : Nat) = ((n * (mC m).length : Nat) : Int):=by rw [h.nm,Int.natCast_mul]
 unfold insE
 refine Fn.of tblOK [] _ _ _ _ _ Tryz.func97 rfl rfl (by kernel_rfl) (by kernel_rfl) rfl (drawOK tblOK) rfl ?_
 refine ⟨rfl,?_⟩
 have q1 : -9223372036854775808 ≤ mN m * ((mC m).length : Nat) ∧ mN m * ((mC m).length : Nat) ≤ 9223372036854775807:=by rw [e0]; omega
 refine ⟨q1,?_⟩
 generalize mN m * ((mC m).length : Nat) = N at *
 subst e0
 refine ⟨fun c1=>?_,fun c1=>?_⟩
 · have c1 : l < 0:=of_decide_eq_true c1
   rw [if_pos c1]
   exact ⟨_,_,_,Le.refl _ _,rfl,rfl,trivial,rfl⟩
 have c1 : ¬ l < 0:=of_decide_eq_false c1
 rw [if_neg c1]
 refine ⟨fun c2=>?_,fun c2=>?_⟩
 · have c2 : a < 0:=of_decide_eq_true c2
   rw [if_pos c2]
   exact ⟨_,_,_,Le.refl _ _,rfl,rfl,trivial,rfl⟩
 have c2 : ¬ a < 0:=of_decide_eq_false c2
 rw [if_neg c2]
 refine ⟨fun c3=>?_,fun c3=>?_⟩
 · have c3 : ((n * (mC m).length : Nat) : Int) < a:=of_decide_eq_true c3
   rw [if_pos c3]
   exact ⟨_,_,_,Le.refl _ _,rfl,rfl,trivial,rfl⟩
 have c3 : ¬ ((n * (mC m).length : Nat) : Int) < a:=of_decide_eq_false c3
 rw [if_neg c3]
 refine ⟨by omega,?_⟩
 refine ⟨fun c4=>?_,fun c4=>?_⟩
 · have c4 : ((n * (mC m).length : Nat) : Int) - a < l:=of_decide_eq_true c4
   rw [if_pos c4]
   exact ⟨_,_,_,Le.refl _ _,rfl,rfl,trivial,rfl⟩
 · have c4 : ¬ ((n * (mC m).length : Nat) : Int) - a < l:=of_decide_eq_false c4
   rw [if_neg c4]
   exact ⟨_,_,_,Le.refl _ _,rfl,rfl,trivial,rfl⟩
/-- May a cluster be written into? -/
def qown (m : Rim) (c : Nat) : Bool:=match (mC m)[c]? with
 | some x=>decide (ceK x = 1) && decide (((refsC (mC m) (ceI x) : Nat) : Int) = 1)
 | none=>false
theorem mown_fn {n : Nat} {m : Rim} (h : MOK n m) {c : Nat} (hc : c < (mC m).length) : Fn Tryz.prog 139 [imV m,vI (c : Int)] [] [] (vB (qown m c)) []:=by
 have hl:=h.cl
 have e : qown m c = (decide (ceK (mC m)[c] = 1) && decide (((refsC (mC m) (ceI (mC m)[c]) : Nat) : Int) = 1)):=by
   unfold qown
   rw [List.getElem?_eq_getElem hc]
 rw [e]
 refine Fn.of tblOK [] _ _ _ _ _ Tryz.func139 rfl rfl (by kernel_rfl) (by kernel_rfl) rfl (drawOK tblOK) rfl ?_
 refine ⟨rfl,?_⟩
 refine ⟨by omega,(mC m)[c],lgAt (n:=c) hc,?_⟩
 refine ⟨fun h2=>?_,fun h2=>?_⟩
 · have h2 : decide (ceK (mC m)[c] = 1) = true:=h2
   refine ⟨by omega,(mC m)[c],lgAt (n:=c) hc,?_⟩
   refine ⟨_,_,_,_,mrefs_fn m (ceI (mC m)[c]) (by omega) h.sn,trivial,rfl,?_⟩
   rw [h2,Bool.true_and]
   refine ⟨rfl,?_⟩
   exact ⟨_,_,_,Le.refl _ _,rfl,rfl,trivial,rfl⟩
 · have h2 : decide (ceK (mC m)[c] = 1) = false:=h2
   rw [h2,Bool.false_and]
   refine ⟨rfl,?_⟩
   exact ⟨_,_,_,Le.refl _ _,rfl,rfl,trivial,rfl⟩
/-- How many of the first k sectors of a cluster are among some. -/
def insTo (n c a l : Nat) : Nat → Nat
 | 0=>0
 | k + 1=>insTo n c a l k + (if a ≤ c * n + k ∧ c * n + k < a + l then 1 else 0)
theorem insTo_le (n c a l : Nat) : ∀ k,insTo n c a l k ≤ k
 | 0=>Nat.le_refl _
 | k + 1=>by
   have:=insTo_le n c a l k
   unfold insTo
   split <;> omega
@[reducible] def isK (a l x s : Nat) (c : Nat) : KL:=[(1,vI (c : Int)),(2,vI (a : Int)),(3,vI (l : Int)),(4,vP 4),(9,vI (x : Nat)),(10,vI (s : Nat))]
theorem minsC_fn {n : Nat} {m : Rim} (h : MOK n m) {c a l : Nat} (hc : c ≤ 256) (ha : a ≤ 100000) (hl : l ≤ 100000) : Fn Tryz.prog 138 [imV m,vI (c : Int),vI (a : Int),vI (l : Int)] [] [] (vI (insTo n c a l n : Nat)) []:=by
 have hn:=h.n8
 have hb : c * n ≤ 256 * 8:=Nat.mul_le_mul hc hn
 have e0 : (c : Int) * mN m = ((c * n : Nat) : Int):=by rw [h.nm,Int.natCast_mul]
 have q1 : -9223372036854775808 ≤ (c : Int) * mN m ∧ (c : Int) * mN m ≤ 9223372036854775807:=by rw [e0]; omega
 have q2 : -9223372036854775808 ≤ (c : Int) * mN m + mN m ∧ (c : Int) * mN m + mN m ≤ 9223372036854775807:=by rw [e0,h.nm]; omega
 refine Fn.of tblOK [] _ _ _ _ _ Tryz.func138 rfl rfl (by kernel_rfl) (by kernel_rfl) rfl (drawOK tblOK) rfl ?_
 refine ⟨rfl,?_⟩
 refine ⟨q1,?_⟩
 show TrQ _ _ _ _ _ _ _
 refine TrQ.loop tblOK (drawOK tblOK) [] (by kernel_rfl) (X:=Nat) (fun k=>isK a l (insTo n c a l k) (c * n + k) c) (fun _=>[(4,.cells (imL m))]) (fun k=>k ≤ n) (fun k=>n - k) 0 (Nat.zero_le _) ?_ ?_
 · exact Le.sub ⟨rfl,rfl,rfl,rfl,rfl,e0,trivial⟩ ⟨rfl,trivial⟩
 intro k hk
 have hi:=insTo_le n c a l k
 refine ⟨q1,q2,?_⟩
 refine ⟨fun h1=>?_,fun h1=>?_⟩
 · have h1 : ((c * n + k : Nat) : Int) < (c : Int) * mN m + mN m:=of_decide_eq_true h1
   rw [e0,h.nm] at h1
   have e : insTo n c a l (k + 1) = insTo n c a l k + (if a ≤ c * n + k ∧ c * n + k < a + l then 1 else 0):=rfl
   refine ⟨fun h2=>?_,fun h2=>?_⟩
   · have h2 : ((a : Nat) : Int) ≤ ((c * n + k : Nat) : Int):=of_decide_eq_true h2
     refine ⟨by omega,?_⟩
     refine ⟨fun h3=>?_,fun h3=>?_⟩
     · have h3 : ((c * n + k : Nat) : Int) < ((a : Nat) : Int) + ((l : Nat) : Int):=of_decide_eq_true h3
       rw [if_pos (by omega)] at e
       refine ⟨by omega,?_⟩
       refine ⟨by omega,k + 1,by omega,by omega,Le.sub ⟨rfl,rfl,rfl,rfl,?_,?_,trivial⟩ ⟨rfl,trivial⟩⟩
       · show ((insTo n c a l k : Nat) : Int) + 1 = ((insTo n c a l (k + 1) : Nat) : Int)
         omega
       · show ((c * n + k : Nat) : Int) + 1 = ((c * n + (k + 1) : Nat) : Int)
         omega
     · have h3 : ¬ ((c * n + k : Nat) : Int) < ((a : Nat) : Int) + ((l : Nat) : Int):=of_decide_eq_false h3
       rw [if_neg (by omega)] at e
       refine ⟨by omega,k + 1,by omega,by omega,Le.sub ⟨rfl,rfl,rfl,rfl,?_,?_,trivial⟩ ⟨rfl,trivial⟩⟩
       · show ((insTo n c a l k : Nat) : Int) = ((insTo n c a l (k + 1) : Nat) : Int)
         omega
       · show ((c * n + k : Nat) : Int) + 1 = ((c * n + (k + 1) : Nat) : Int)
         omega
   · have h2 : ¬ ((a : Nat) : Int) ≤ ((c * n + k : Nat) : Int):=of_decide_eq_false h2
     rw [if_neg (by omega)] at e
     refine ⟨by omega,k + 1,by omega,by omega,Le.sub ⟨rfl,rfl,rfl,rfl,?_,?_,trivial⟩ ⟨rfl,trivial⟩⟩
     · show ((insTo n c a l k : Nat) : Int) = ((insTo n c a l (k + 1) : Nat) : Int)
       omega
     · show ((c * n + k : Nat) : Int) + 1 = ((c * n + (k + 1) : Nat) : Int)
       omega
 · have h1 : ¬ ((c * n + k : Nat) : Int) < (c : Int) * mN m + mN m:=of_decide_eq_false h1
   rw [e0,h.nm] at h1
   have hk1 : k = n:=by omega
   subst hk1
   exact ⟨_,_,_,Le.refl _ _,rfl,rfl,trivial,rfl⟩
/-- A cluster's bytes; bel: what is told of Holes. -/
def clusM (n : Nat) (m : Rim) (c : Nat) (bel : List (List UInt8)) : List UInt8:=match (mC m)[c]? with
 | some x=>if ceK x = 1 then (mD m).getD (ceI x).toNat [] else if ceK x = 0 then (match bel[c]? with
   | some y=>if y.length = 16 * n then y else List.replicate (16 * n) 0
   | none=>List.replicate (16 * n) 0) else List.replicate (16 * n) 0
 | none=>[]
theorem mclus_fn {n : Nat} {m : Rim} (h : MOK n m) {c : Nat} (hc : c < (mC m).length) (bel : List (List UInt8)) (hb : bel.length ≤ 1000000) : Fn Tryz.prog 132 [imV m,vI (c : Int),vL .str bel] [] [] (vS (clusM n m c bel)) []:=by
 have hl:=h.cl
 have hn:=h.n8
 have hn1:=h.n1
 have hnm:=h.nm
 have e : clusM n m c bel = if ceK (mC m)[c] = 1 then (mD m).getD (ceI (mC m)[c]).toNat [] else if ceK (mC m)[c] = 0 then (match bel[c]? with
   | some y=>if y.length = 16 * n then y else List.replicate (16 * n) 0
   | none=>List.replicate (16 * n) 0) else List.replicate (16 * n) 0:=by
   unfold clusM
   rw [List.getElem?_eq_getElem hc]
 rw [e]
 have q16 : -9223372036854775808 ≤ 16 * mN m ∧ 16 * mN m ≤ 9223372036854775807:=by omega
 have e16 : (16 * mN m).toNat = 16 * n:=by omega
 refine Fn.of tblOK [] _ _ _ _ _ Tryz.func132 rfl rfl (by kernel_rfl) (by kernel_rfl) rfl (drawOK tblOK) rfl ?_
 refine ⟨rfl,?_⟩
 refine ⟨by omega,(mC m)[c],lgAt (n:=c) hc,?_⟩
 refine ⟨fun h1=>?_,fun h1=>?_⟩
 · have h1 : ceK (mC m)[c] = 1:=of_decide_eq_true h1
   rw [if_pos h1]
   obtain ⟨i,hi,hi2⟩:=h.ix _ (List.getElem_mem hc) h1
   have ei : (ceI (mC m)[c]).toNat = i:=by omega
   refine ⟨by omega,(mC m)[c],lgAt (n:=c) hc,?_⟩
   have hi4 : (0 : Int) ≤ (i : Int) ∧ (i : Int) < (((mD m).length : Nat) : Int):=by omega
   refine ⟨(show (0 : Int) ≤ ceI (mC m)[c] by rw [hi]; exact hi4.1),(mD m)[i],(by rw [ei]; exact lgAt (n:=i) hi2),?_⟩
   rw [ei,List.getD_eq_getElem?_getD,List.getElem?_eq_getElem hi2]
   refine ⟨rfl,?_⟩
   exact ⟨_,_,_,Le.refl _ _,rfl,rfl,trivial,rfl⟩
 have h1 : ¬ ceK (mC m)[c] = 1:=of_decide_eq_false h1
 rw [if_neg h1]
 refine ⟨by omega,(mC m)[c],lgAt (n:=c) hc,?_⟩
 refine ⟨fun h2=>?_,fun h2=>?_⟩
 · have h2 : ceK (mC m)[c] = 0:=of_decide_eq_true h2
   rw [if_pos h2]
   refine ⟨fun h3=>?_,fun h3=>?_⟩
   · have h3 : (c : Int) < ((bel.length : Nat) : Int):=of_decide_eq_true h3
     have h3 : c < bel.length:=by omega
     rw [List.getElem?_eq_getElem h3]
     simp only
     refine ⟨by omega,bel[c],lgAt (n:=c) h3,?_⟩
     refine ⟨q16,?_⟩
     refine ⟨rfl,fun h4=>?_,fun h4=>?_⟩
     · have h4 : (((bel[c]).length : Nat) : Int) = 16 * mN m:=of_decide_eq_true h4
       rw [if_pos (by omega)]
       refine ⟨by omega,bel[c],lgAt (n:=c) h3,?_⟩
       exact ⟨_,_,_,Le.refl _ _,rfl,rfl,trivial,rfl⟩
     · have h4 : ¬ (((bel[c]).length : Nat) : Int) = 16 * mN m:=of_decide_eq_false h4
       rw [if_neg (by omega)]
       refine ⟨q16,?_⟩
       refine ⟨by omega,rfl,?_⟩
       rw [← e16]
       exact ⟨_,_,_,Le.refl _ _,rfl,rfl,trivial,rfl⟩
   · have h3 : ¬ (c : Int) < ((bel.length : Nat) : Int):=of_decide_eq_false h3
     rw [List.getElem?_eq_none (by omega)]
     simp only
     refine ⟨rfl,?_⟩
     refine ⟨q16,?_⟩
     refine ⟨by omega,rfl,?_⟩
     rw [← e16]
     exact ⟨_,_,_,Le.refl _ _,rfl,rfl,trivial,rfl⟩
 · have h2 : ¬ ceK (mC m)[c] = 0:=of_decide_eq_false h2
   rw [if_neg h2]
   refine ⟨rfl,?_⟩
   refine ⟨q16,?_⟩
   refine ⟨by omega,rfl,?_⟩
   rw [← e16]
   exact ⟨_,_,_,Le.refl _ _,rfl,rfl,trivial,rfl⟩
end Go.Proofs.YteoamepgonpdlaaGreat
/-!
  The document's image (layer 12): laid, set, put.
-/
namespace Go.Proofs.YteoamepgonpdlaaGreat
set_option linter.unusedVariables false
set_option linter.unusedSimpArgs false
set_option maxRecDepth 10000
open Go.RowKit Go.Proofs
/-! ### a row's length,told of its old header -/
/-- A mark: the header d tells n. -/
def lenIs (n : Nat) (q : Pl) : Ob where
 R:=fun I F w p=>q.n = n ∧ ∀ x,¬ F x
 stable:=fun _ _ _ _ _ _ h _ _ _=>h
section
variable {P : Program} {N : Nat} {ids : List Nat} {K : KL} {B : BL} {o : Oper}
theorem Le.lenAt (d m : Nat) {e : Nat} {u : U} {xs : List (El u)} (hd : lookB B d = some (.row e u xs)) (hm : freshB ids K B m = true) (hne : d ≠ m) : Le ids K B K ((m,.dep d (lenIs xs.length)) :: B):=by
 rintro N C a w ⟨hn,hdf,ρ,F,hM,hS⟩
 have hfr:=fresh_of hm
 obtain ⟨hF,hblk,cs,hown,_⟩:=hM.holds d _ hd
 obtain ⟨_,A,cap,hv,_⟩:=Sl.of_own hown
 have hl : (ρ d).n = xs.length:=by
   unfold Pl.hdr at hv
   injection hv
 obtain ⟨hM',hE⟩:=hM.make (ch:=.dep d (lenIs xs.length)) (w':=w) hm (Below.refl _ _) ⟨0,none,0,0⟩ (fun _=>False) (fun _ h=>h.elim) (fun I _ _=>by
   show (lenIs xs.length (upd ρ m _ d)).R I _ w _
   rw [upd_other _ _ hne]
   exact ⟨hl,fun _ h=>h⟩)
 exact ⟨hn,hdf,_,_,hM',hS.mono hE fun s c hc=>upd_other _ _ (fun e=>by subst e; rw [hfr.1 s] at hc; cases hc)⟩
theorem opOK_lenAt {tt : Tr} (hP : TblOK P tt) {T e : TypeId} {te : TI} {x : Operand} {c : Call} {d m n : Nat} (ho : o.op = .call c) (hc1 : c.callee = .builtin .len) (hc2 : c.args.toList = [x]) (hc3 : c.argTypes.toList = [T]) (he : elemOf tt T = some (e,te))
   (hx : opv K x = .c (.one (.own d))) (hm : lookB B m = some (.dep d (lenIs n))) (N : Nat) : OpOK P N ids o K B (vI (n : Nat)) ⟨[m],[],[]⟩:=by
 have hargs : c.args = #[x]:=Array.toList_inj.1 hc2
 have hts : c.argTypes = #[T]:=Array.toList_inj.1 hc3
 obtain ⟨cal,args,ts⟩:=c
 simp only at hc1 hargs hts
 subst hc1 hargs hts
 have m1 : x ∈ o.op.operands:=by rw [ho]; simp [Op.operands,Call.operands]
 obtain ⟨ht,_⟩:=elem_ok hP he
 refine OpOK.val fun K' B' g1 g2 C ρ F a w hM hS=>?_
 have hl : (ρ d).n = n:=(hM.holds m _ ((g2 m (by simp)).trans hm)).1
 have hx' : a.eval x = .slice (ρ d).A (ρ d).n (ρ d).cap:=hS.own ((g1 x m1).trans hx)
 refine ⟨.int .i64 (n : Int),?_,rfl⟩
 simp [execOp,ho,hx',hl,resolve,invoke,builtin,Builtin.len_,run_underlying ht,goInt]
end
/-! ### a region of which one operation is told by the user -/
section
variable {P : Program} {tt : Tr} {N : Nat} {ids : List Nat} {K : KL} {B : BL}
def vcOpY (P : Program) (tt : Tr) (ids : List Nat) (j : Nat) (o : Oper) (K : KL) (B : BL) (k : SV → Eff → Prop) : Prop:=match o.dst with
 | some d=>match Nat.beq d j with
   | true=>vcAny P ids o K B k
   | false=>vcOp P tt ids o K B k
 | none=>vcOp P tt ids o K B k
def vcsYS (P : Program) (tt : Tr) (ids : List Nat) (j : Nat) (all : List Oper) (o : Oper) (l : List Oper) (ih : KL → BL → Prop) (K : KL) (B : BL) : Prop :=
 match wants all K o.guard with
 | none=>False
 | some false=>match o.dst with
   | some d=>ih ((d,.undef) :: K) B
   | none=>ih K B
 | some true=>vcOpY P tt ids j o K B fun v e=>match o.dst with
   | none=>ih K (applyB e.wc B)
   | some d=>match isG (all.length - l.length - 1) l,v with
     | true,.c (.one (.d (.bool b)))=>(b = true → ih ((d,.c (.one (.d (.lit true)))) :: K) (applyB e.wc B)) ∧ (b = false → ih ((d,.c (.one (.d (.lit false)))) :: K) (applyB e.wc B))
     | _,v=>ih ((d,v) :: K) (applyB e.wc B)
noncomputable def vcsY (P : Program) (tt : Tr) (ids : List Nat) (j : Nat) (all l : List Oper) (K : KL) (B : BL) (k : KL → BL → Prop) : Prop :=
 List.rec (motive:=fun _=>KL → BL → Prop) k (fun o l ih K B=>vcsYS P tt ids j all o l ih K B) l K B
theorem vcsY_cons {j : Nat} {all l : List Oper} {o : Oper} {k : KL → BL → Prop} : vcsY P tt ids j all (o :: l) K B k = vcsYS P tt ids j all o l (fun K B=>vcsY P tt ids j all l K B k) K B:=rfl
theorem vcOpY_sound (hP : TblOK P tt) {j : Nat} {o : Oper} {k : SV → Eff → Prop} (h : vcOpY P tt ids j o K B k) : ∃ v e,k v e ∧ OpOK P N ids o K B v e ∧ ∀ c,c ∈ e.nw → freshB ids K B c = true:=by
 unfold vcOpY at h
 split at h
 · split at h
   · exact snd_any h
   · exact vcOp_sound hP h
 · exact vcOp_sound hP h
theorem vcsY_seq (hP : TblOK P tt) (j : Nat) (all : List Oper) : ∀ (l : List Oper) (K : KL) (B : BL) (k : KL → BL → Prop),dstOK N l = true → vcsY P tt ids j all l K B k → ∀ (C : Ctx) (a : Act) (w : World),Sat N ids C K B a w →
   ∀ (r : Option Nat) (Q : Exit → Act → World → Prop),(∀ K' B',k K' B' → ∀ a' w',Sat N ids C K' B' a' w' → Q .normal a' w') → wpListIn (wideR r) 0 P all.toArray Q l a w
 | [],K,B,k,_,h,C,a,w,hs,r,Q,hk=>wpListIn_nil (hk K B h a w hs)
 | o :: l,K,B,k,hd,h,C,a,w,hs,r,Q,hk=>by
   simp only [dstOK,Bool.and_eq_true] at hd
   obtain ⟨⟨hd0,hnd⟩,hdl⟩:=hd
   have hnd:=notDefer hnd
   have hlt : ∀ d,o.dst = some d → d < N:=fun d e=>by rw [e] at hd0; simpa [Nat.blt_eq] using hd0
   have hs':=hs
   obtain ⟨_,_,ρ,F,hM,hS⟩:=hs'
   rw [vcsY_cons] at h
   unfold vcsYS at h
   refine wpListIn_step fun Kn hKn=>?_
   split at h
   · exact h.elim
   · rename_i hw
     rw [if_neg (by rw [wants_sound hw hS]; simp)]
     refine ⟨fun _ _=>trivial,hKn _ _ ?_⟩
     have hu:=hs.undef o.dst hlt
     split at h
     · rename_i d e
       rw [e] at hu ⊢
       exact vcsY_seq hP j all l _ _ k hdl h C _ w hu r Q hk
     · rename_i e
       rw [e] at hu ⊢
       exact vcsY_seq hP j all l _ _ k hdl h C _ w hu r Q hk
   · rename_i hw
     rw [if_pos (wants_sound hw hS)]
     obtain ⟨v,e,h,hO,hf⟩:=vcOpY_sound hP h
     refine op_in hnd (hO K B (fun _ _=>rfl) (fun _ _=>rfl) hf C a w hs hlt Kn Q fun a' w' hs2=>hKn _ _ ?_)
     split at h
     · rename_i e2
       rw [e2] at hs2
       exact vcsY_seq hP j all l _ _ k hdl h C _ w' hs2 r Q hk
     · rename_i d e2
       rw [e2] at hs2
       split at h
       · rename_i b hg
         cases b with
         | true=>exact vcsY_seq hP j all l _ _ k hdl (h.1 rfl) C _ w' hs2.lit r Q hk
         | false=>exact vcsY_seq hP j all l _ _ k hdl (h.2 rfl) C _ w' hs2.lit r Q hk
       · exact vcsY_seq hP j all l _ _ k hdl h C _ w' hs2 r Q hk
theorem TrQ.regionY (hP : TblOK P tt) (j : Nat) {id : Nat} {ops : Array Oper} {Q : Ex → KL → BL → Prop} (hd : dstOK N ops.toList = true) (h : vcsY P tt ids j ops.toList ops.toList K B (fun K B=>Q .nrm K B)) : TrQ P N ids (.region id ops false) K B Q:=by
 intro r hr C Qs hq a w hs
 refine wpIn_region_list ?_
 have:=vcsY_seq hP j ops.toList ops.toList K B _ hd h C a w hs r Qs (fun K' B' hk a' w' hs'=>hq .nrm K' B' C.ds (fun _=>rfl) hk a' w' hs')
 simpa using this
end
/-! ### a whole thing of a row is written -/
theorem splice_get {α : Type} {l us : List α} {p : Nat} (h : p + us.length ≤ l.length) (i : Nat) : (l.take p ++ us ++ l.drop (p + us.length))[i]? = if p ≤ i ∧ i < p + us.length then us[i - p]? else l[i]?:=by
 have h1 : (l.take p).length = p:=by rw [List.length_take]; omega
 by_cases c1 : i < p
 · rw [if_neg (by omega),List.append_assoc,List.getElem?_append_left (by omega),List.getElem?_take,if_pos c1]
 · by_cases c2 : i < p + us.length
   · rw [if_pos ⟨by omega,c2⟩,List.append_assoc,List.getElem?_append_right (by omega),h1,List.getElem?_append_left (by omega)]
   · rw [if_neg (by omega),List.getElem?_append_right (by rw [List.length_append]; omega),List.length_append,h1,List.getElem?_drop]
     congr 1
     omega
theorem splice_take {α : Type} {l us : List α} {p N : Nat} (h : p + us.length ≤ N) (hN : N ≤ l.length) : (l.take p ++ us ++ l.drop (p + us.length)).take N = (l.take N).take p ++ us ++ (l.take N).drop (p + us.length):=by
 apply List.ext_getElem?
 intro i
 rw [List.getElem?_take,splice_get (by omega),splice_get (by rw [List.length_take]; omega),List.getElem?_take]
 by_cases c : i < N
 · rw [if_pos c,if_pos c]
 · rw [if_neg c,if_neg c,if_neg (by omega)]
section
variable {P : Program} {ids : List Nat} {K : KL} {B : BL}
theorem opOK_rowPut {o : Oper} {T : TypeId} {x v : Operand} {c i : Nat} {e : TypeId} {u : U} {xs : List (El u)} {y : El u} {inf : TypeInfo} (ho : o.op = .store T x v) (hi : P.info? T = some inf) (hz : inf.size = sz u) (hx : opv K x = .c (.one (.rp c (sz u) i 0)))
   (hv : opv K v = .c (.agg (listU u y 0 (sz u)))) (hB : lookB B c = some (.row e u xs)) (hil : i < xs.length) (hw : WfU u y) (N : Nat) :
   OpOK P N ids o K B .undef ⟨[c],[],[(c,some (.row e u (xs.set i y)))]⟩:=by
 have m1 : x ∈ o.op.operands:=by rw [ho]; simp [Op.operands]
 have m2 : v ∈ o.op.operands:=by rw [ho]; simp [Op.operands]
 refine OpOK.turn hB fun K' B' g1 C ρ F a w hM hS hl'=>?_
 obtain ⟨hF,hblk,cs,hown,hrec⟩:=hM.holds c _ hl'
 have hxp:=hS.rp ((g1 x m1).trans hx)
 obtain ⟨us,e2,h2⟩:=hS.ev ((g1 v m2).trans hv)
 have hul : us.length = sz u:=by rw [DenL.length _ _ h2,listU_length]
 have hud:=listU_mk hw h2
 have hone : ∀ z,z ∈ us → z.oneCell' = true:=fun z hz=>by
   obtain ⟨q,hq,rfl⟩:=List.getElem_of_mem hz
   obtain ⟨z',hz',ho'⟩:=DenU.one u y _ hud q (by omega)
   rw [List.getElem?_eq_getElem hq] at hz'
   injection hz' with hz'
   rw [hz']
   exact ho'
 obtain ⟨hl1,hown⟩:=hown
 rcases hown with ⟨_,h0⟩ | ⟨g,cap,cur,hv',_,hg,hcap,hm,hsz,ht⟩
 · omega
 · have hbg : g = (ρ c).blk:=hblk g (by rw [hv']; rfl)
   subst hbg
   have hmul : i * sz u + sz u ≤ xs.length * sz u:=by
     have:=Nat.mul_le_mul_right (sz u) hil
     rw [Nat.succ_mul] at this
     exact this
   have hmul2 : xs.length * sz u ≤ cap * sz u:=Nat.mul_le_mul_right _ hcap
   have hcl : cur.toList.length = cur.size:=by simp
   have hgt : w.heap[(ρ c).blk]? = some (.cells (List.toArray cur.toList) e (0,0)):=by simpa using hg
   have hfit : i * sz u + us.length ≤ cur.toList.length:=by simp; omega
   have hex:=exec_store (P:=P) (ev:=a.eval) (w:=w) (us:=us) ho (by rw [hxp,Nat.add_zero]) (by rw [e2]; rfl) hi (hz.trans hul.symm) hgt hfit hone
   refine ⟨_,hex,setRow_fr ((hF _).2 (by rw [hv']; rfl)),fun I he=>?_⟩
   have hnew:=setRow_heap w (ρ c).blk cur (List.take (i * sz u) cur.toList ++ us ++ List.drop (i * sz u + us.length) cur.toList).toArray e (0,0) hg
   have hfc : i * sz u + us.length ≤ cs.length:=by rw [hl1,hul]; exact hmul
   refine ⟨hF,hblk,cs.take (i * sz u) ++ us ++ cs.drop (i * sz u + us.length),⟨by rw [List.length_append,List.length_append,List.length_take,List.length_drop,List.length_set]; omega,.inr ⟨(ρ c).blk,cap,_,by rw [hv']; simp,Nat.zero_le _,hnew,by simpa using hcap,hm,by simp; omega,?_⟩⟩,fun j z hz=>?_⟩
   · rw [List.length_set]
     have:=splice_take (l:=cur.toList) (us:=us) (p:=i * sz u) (N:=xs.length * sz u) (by omega) (by simp; omega)
     rw [← ht]
     simpa using this
   · by_cases hji : i = j
     · subst hji
       rw [List.getElem?_set_self hil] at hz
       injection hz with hz
       subst hz
       refine DenU.mk u y _ hw fun q hq=>?_
       obtain ⟨z,hz,hz2⟩:=DenU.cell u y _ q hud hq
       refine ⟨z,?_,Den.mono he _ _ hz2⟩
       rw [splice_get hfc,if_pos ⟨by omega,by omega⟩,show i * sz u + q - i * sz u = q by omega]
       exact hz
     · rw [List.getElem?_set_ne hji] at hz
       have hd:=hrec j z hz
       refine DenU.mk u z _ (DenU.wf u z _ hd) fun q hq=>?_
       obtain ⟨x,hx,hx2⟩:=DenU.cell u z _ q hd hq
       refine ⟨x,?_,Den.mono he _ _ hx2⟩
       rw [splice_get hfc,if_neg ?_]
       · exact hx
       · rintro ⟨a1,a2⟩
         rw [hul] at a2
         rcases Nat.lt_or_gt_of_ne hji with hlt | hgt
         · have:=Nat.mul_le_mul_right (sz u) (show i + 1 ≤ j by omega)
           rw [Nat.succ_mul] at this
           omega
         · have:=Nat.mul_le_mul_right (sz u) (show j + 1 ≤ i by omega)
           rw [Nat.succ_mul] at this
           omega
end
/-- Of a cluster's bytes,with sectors of b (which begin at a) over them,the k-th sector. -/
def ldP (n c a : Nat) (x b : List UInt8) (k : Nat) : List UInt8 :=
 if a ≤ c * n + k ∧ 16 * (c * n + k - a) + 16 ≤ b.length then (b.take (16 * (c * n + k - a) + 16)).drop (16 * (c * n + k - a)) else (x.take (16 * k + 16)).drop (16 * k)
def ldTo (n c a : Nat) (x b : List UInt8) : Nat → List UInt8
 | 0=>[]
 | k + 1=>ldTo n c a x b k ++ ldP n c a x b k
theorem ldP_len {n c a : Nat} {x b : List UInt8} {k : Nat} (hx : 16 * k + 16 ≤ x.length) : (ldP n c a x b k).length = 16:=by
 unfold ldP
 split
 · rw [List.length_drop,List.length_take]; omega
 · rw [List.length_drop,List.length_take]; omega
theorem ldTo_len {n c a : Nat} {x b : List UInt8} : ∀ k,16 * k ≤ x.length → (ldTo n c a x b k).length = 16 * k
 | 0,_=>rfl
 | k + 1,h=>by
   rw [ldTo,List.length_append,ldTo_len k (by omega),ldP_len (by omega)]
   omega
@[reducible] def ldK (c a : Nat) (x b acc : List UInt8) (k : Nat) : KL:=[(1,vS x),(2,vI (c : Int)),(3,vI (a : Int)),(4,vS b),(5,vP 5),(11,vS acc),(12,vI (k : Nat))]
theorem mlaid_fn {n : Nat} {m : Rim} (h : MOK n m) {c a : Nat} {x b : List UInt8} (hc : c ≤ 256) (ha : a ≤ 100000) (hx : x.length = 16 * n) (hb : b.length ≤ 1000000) : Fn Tryz.prog 143 [imV m,vS x,vI (c : Int),vI (a : Int),vS b] [] [] (vS (ldTo n c a x b n)) []:=by
 have hn:=h.n8
 have hnm:=h.nm
 have hcn : c * n ≤ 256 * 8:=Nat.mul_le_mul hc hn
 have e0 : (c : Int) * mN m = ((c * n : Nat) : Int):=by rw [h.nm,Int.natCast_mul]
 have q1 : -9223372036854775808 ≤ (c : Int) * mN m ∧ (c : Int) * mN m ≤ 9223372036854775807:=by rw [e0]; omega
 refine Fn.of tblOK [] _ _ _ _ _ Tryz.func143 rfl rfl (by kernel_rfl) (by kernel_rfl) rfl (drawOK tblOK) rfl ?_
 refine ⟨rfl,?_⟩
 show TrQ _ _ _ _ _ _ _
 refine TrQ.loop tblOK (drawOK tblOK) [] (by kernel_rfl) (X:=Nat) (fun k=>ldK c a x b (ldTo n c a x b k) k) (fun _=>[(5,.cells (imL m))]) (fun k=>k ≤ n) (fun k=>n - k) 0 (Nat.zero_le _) ?_ ?_
 · exact Le.sub ⟨rfl,rfl,rfl,rfl,rfl,rfl,rfl,trivial⟩ ⟨rfl,trivial⟩
 intro k hk
 refine ⟨fun h1=>?_,fun h1=>?_⟩
 · have h1 : ((k : Nat) : Int) < mN m:=of_decide_eq_true h1
   have hk1 : k < n:=by omega
   have hlen:=ldTo_len (n:=n) (c:=c) (a:=a) (x:=x) (b:=b) k (by omega)
   have e : ldTo n c a x b (k + 1) = ldTo n c a x b k ++ ldP n c a x b k:=rfl
   have q2 : -9223372036854775808 ≤ (c : Int) * mN m + (k : Nat) ∧ (c : Int) * mN m + (k : Nat) ≤ 9223372036854775807:=by rw [e0]; omega
   have q3 : -9223372036854775808 ≤ (c : Int) * mN m + (k : Nat) - (a : Nat) ∧ (c : Int) * mN m + (k : Nat) - (a : Nat) ≤ 9223372036854775807:=by rw [e0]; omega
   refine ⟨q1,q2,q3,?_⟩
   have e3 : (c : Int) * mN m + (k : Nat) - (a : Nat) = ((c * n + k : Nat) : Int) - (a : Nat):=by rw [e0]; omega
   rw [e3]
   refine ⟨fun h2=>?_,fun h2=>?_⟩
   · have h2 : 0 ≤ ((c * n + k : Nat) : Int) - (a : Nat):=of_decide_eq_true h2
     obtain ⟨s,hs⟩ : ∃ s : Nat,s = c * n + k - a:=⟨_,rfl⟩
     have es : ((c * n + k : Nat) : Int) - (a : Nat) = (s : Int):=by omega
     rw [es]
     refine ⟨by omega,by omega,?_⟩
     refine ⟨fun h3=>?_,fun h3=>?_⟩
     · have h3 : 16 * (s : Int) + 16 ≤ ((b.length : Nat) : Int):=of_decide_eq_true h3
       have ep : ldP n c a x b k = (b.take (16 * s + 16)).drop (16 * s):=by
         unfold ldP
         rw [← hs,if_pos ⟨by omega,by omega⟩]
       have ep2 : ldP n c a x b k = (b.take (16 * (s : Int) + 16).toNat).drop (16 * (s : Int)).toNat:=by rw [ep,show (16 * (s : Int) + 16).toNat = 16 * s + 16 by omega,show (16 * (s : Int)).toNat = 16 * s by omega]
       have el:=ldP_len (n:=n) (c:=c) (a:=a) (x:=x) (b:=b) (k:=k) (by omega)
       rw [ep2] at el
       refine ⟨by omega,by omega,by omega,by omega,?_⟩
       have e5 : (ldTo n c a x b k).length + ((b.take (16 * (s : Int) + 16).toNat).drop (16 * (s : Int)).toNat).length ≤ 4294967296:=by omega
       refine ⟨e5,?_⟩
       refine ⟨by omega,k + 1,by omega,by omega,Le.sub ⟨rfl,rfl,rfl,rfl,rfl,?_,rfl,trivial⟩ ⟨rfl,trivial⟩⟩
       rw [e,ep2]
       rfl
     · have h3 : ¬ 16 * (s : Int) + 16 ≤ ((b.length : Nat) : Int):=of_decide_eq_false h3
       have ep : ldP n c a x b k = (x.take (16 * (k : Int) + 16).toNat).drop (16 * (k : Int)).toNat:=by
         unfold ldP
         rw [← hs,if_neg (by omega),show (16 * (k : Int) + 16).toNat = 16 * k + 16 by omega,show (16 * (k : Int)).toNat = 16 * k by omega]
       have el:=ldP_len (n:=n) (c:=c) (a:=a) (x:=x) (b:=b) (k:=k) (by omega)
       rw [ep] at el
       refine ⟨by omega,by omega,by omega,by omega,?_⟩
       have e5 : (ldTo n c a x b k).length + ((x.take (16 * (k : Int) + 16).toNat).drop (16 * (k : Int)).toNat).length ≤ 4294967296:=by omega
       refine ⟨e5,?_⟩
       refine ⟨by omega,k + 1,by omega,by omega,Le.sub ⟨rfl,rfl,rfl,rfl,rfl,?_,rfl,trivial⟩ ⟨rfl,trivial⟩⟩
       rw [e,ep]
       rfl
   · have h2 : ¬ 0 ≤ ((c * n + k : Nat) : Int) - (a : Nat):=of_decide_eq_false h2
     have ep : ldP n c a x b k = (x.take (16 * (k : Int) + 16).toNat).drop (16 * (k : Int)).toNat:=by
       unfold ldP
       rw [if_neg (by omega),show (16 * (k : Int) + 16).toNat = 16 * k + 16 by omega,show (16 * (k : Int)).toNat = 16 * k by omega]
     have el:=ldP_len (n:=n) (c:=c) (a:=a) (x:=x) (b:=b) (k:=k) (by omega)
     rw [ep] at el
     refine ⟨by omega,by omega,by omega,by omega,?_⟩
     have e5 : (ldTo n c a x b k).length + ((x.take (16 * (k : Int) + 16).toNat).drop (16 * (k : Int)).toNat).length ≤ 4294967296:=by omega
     refine ⟨e5,?_⟩
     refine ⟨by omega,k + 1,by omega,by omega,Le.sub ⟨rfl,rfl,rfl,rfl,rfl,?_,rfl,trivial⟩ ⟨rfl,trivial⟩⟩
     rw [e,ep]
     rfl
 · have h1 : ¬ ((k : Nat) : Int) < mN m:=of_decide_eq_false h1
   have hk1 : k = n:=by omega
   subst hk1
   exact ⟨_,_,_,Le.refl _ _,rfl,rfl,trivial,rfl⟩
/-- A cell is another one. -/
@[reducible] def setM (m : Rim) (c : Nat) (x : Cell) : Rim:=mkM (mN m) (mR m) ((mC m).set c x) (mS m) (mD m)
theorem infCe : (Tryz.prog.info? 148).map (·.size) = some 2:=by kernel_rfl
theorem mset_fn (m : Rim) {c : Nat} (hl : (mC m).length ≤ 1000000) (hc : c < (mC m).length) (x : Cell) : Fn Tryz.prog 141 [imV m,vI (c : Int),.c (.agg [.d (.int .i64 (ceK x)),.d (.int .i64 (ceI x))])] [] [] (.c (.agg (imL (setM m c x)))) []:=by
 refine Fn.of tblOK [3] _ _ _ _ _ Tryz.func141 rfl rfl (by kernel_rfl) (by kernel_rfl) rfl (drawOK tblOK) rfl ?_
 refine ⟨rfl,?_⟩
 refine ⟨rfl,?_⟩
 refine ⟨rfl,?_⟩
 have h1 : (0 : Nat) + (mC m).length ≤ 4294967296:=by omega
 refine ⟨rfl,h1,rfl,?_⟩
 have h2 : 0 ≤ (c : Int) ∧ (c : Int) < (((mC m).length : Nat) : Int):=by omega
 refine ⟨h2,?_⟩
 obtain ⟨inf,hi1,hi2⟩:=inf_of infCe
 refine ⟨_,_,fun N=>opOK_rowPut (u:=uCe) (y:=x) rfl hi1 hi2 rfl rfl rfl (by show c < (mC m).length; exact hc) ⟨trivial,trivial⟩ N,rfl,?_⟩
 show TrQ _ _ _ _ _ _ _
 refine TrQ.go tblOK (drawOK tblOK) [] (by kernel_rfl) (Le.frz 11 rfl) ?_
 exact ⟨_,_,_,Le.refl _ _,rfl,⟨rfl,rfl,rfl,rfl,rfl,trivial⟩,trivial,rfl⟩
/-- A cluster has another content: in its own one,or a new one. -/
def putM (m : Rim) (c : Nat) (x : List UInt8) : Rim:=match qown m c with
 | true=>mkM (mN m) (mR m) (mC m) (mS m) ((mD m).set (ceI ((mC m).getD c (mkCe 0 0))).toNat x)
 | false=>setM (mkM (mN m) (mR m) (mC m) (mS m) (mD m ++ [x])) c (mkCe 1 ((mD m).length : Nat))
theorem mput_fn {n : Nat} {m : Rim} (h : MOK n m) {c : Nat} (hc : c < (mC m).length) (x : List UInt8) : Fn Tryz.prog 142 [imV m,vI (c : Int),vS x] [] [] (.c (.agg (imL (putM m c x)))) []:=by
 have hl:=h.cl
 have hd:=h.dl
 unfold putM
 refine Fn.of tblOK [4,6,7] _ _ _ _ _ Tryz.func142 rfl rfl (by kernel_rfl) (by kernel_rfl) rfl (drawOK tblOK) rfl ?_
 refine ⟨rfl,?_⟩
 refine ⟨rfl,?_⟩
 have h1 : (0 : Nat) + (mD m).length ≤ 4294967296:=by omega
 refine ⟨rfl,h1,rfl,?_⟩
 refine ⟨_,_,_,_,mown_fn h hc,trivial,rfl,?_⟩
 cases e1 : qown m c with
 | true =>
   refine ⟨fun _=>?_,fun h=>absurd h (by decide)⟩
   have hk : ceK (mC m)[c] = 1:=by
     unfold qown at e1
     rw [List.getElem?_eq_getElem hc] at e1
     simp only [Bool.and_eq_true,decide_eq_true_eq] at e1
     exact e1.1
   obtain ⟨i,hi,hi2⟩:=h.ix _ (List.getElem_mem hc) hk
   refine ⟨by omega,(mC m)[c],lgAt (n:=c) hc,?_⟩
   have hi3 : (0 : Int) ≤ ceI (mC m)[c] ∧ ceI (mC m)[c] < (((mD m).length : Nat) : Int):=by rw [hi]; omega
   refine ⟨hi3,?_⟩
   refine ⟨⟨trivial,(show (ceI (mC m)[c]).toNat < (mD m).length by rw [hi,Int.toNat_natCast]; exact hi2)⟩,?_⟩
   have eg : (mC m).getD c (mkCe 0 0) = (mC m)[c]:=by rw [List.getD_eq_getElem?_getD,List.getElem?_eq_getElem hc]; rfl
   rw [eg]
   show TrQ _ _ _ _ _ _ _
   refine TrQ.go tblOK (drawOK tblOK) [] (by kernel_rfl) (Le.frz 11 rfl) ?_
   exact ⟨_,_,_,Le.refl _ _,rfl,⟨rfl,rfl,rfl,rfl,rfl,trivial⟩,trivial,rfl⟩
 | false =>
   refine ⟨fun h=>absurd h (by decide),fun _=>?_⟩
   show TrQ _ _ _ _ _ _ _
   refine TrQ.go tblOK (drawOK tblOK) [7] (by kernel_rfl) (Le.lenAt 11 9001 rfl rfl (by decide)) ?_
   have h2 : (mD m).length + 1 ≤ 4294967296:=by omega
   refine ⟨h2,rfl,?_⟩
   show TrQ _ _ _ _ _ _ _
   refine TrQ.le (Le.frz 30 rfl) ?_
   refine TrQ.regionY tblOK 35 (by kernel_rfl) ?_
   refine ⟨_,_,fun N=>opOK_lenAt (m:=9001) (n:=(mD m).length) tblOK rfl rfl rfl rfl rfl rfl rfl N,rfl,?_⟩
   refine ⟨_,_,_,_,mset_fn (mkM (mN m) (mR m) (mC m) (mS m) (mD m ++ [x])) (by show (mC m).length ≤ 1000000; omega) hc (mkCe 1 ((mD m).length : Nat)),trivial,rfl,?_⟩
   exact ⟨_,_,_,Le.refl _ _,rfl,⟨rfl,rfl,rfl,rfl,rfl,trivial⟩,trivial,rfl⟩
end Go.Proofs.YteoamepgonpdlaaGreat
/-!
  The document's image (layer 12): New, Read, Write, Discard, Do.
-/
namespace Go.Proofs.YteoamepgonpdlaaGreat
set_option linter.unusedVariables false
set_option linter.unusedSimpArgs false
set_option maxRecDepth 10000
open Go.RowKit Go.Proofs
theorem MOK.set {n : Nat} {m : Rim} (h : MOK n m) (c : Nat) {k : Int} (hk : k ≠ 1) : MOK n (setM m c (mkCe k 0)) where
 nm:=h.nm
 n1:=h.n1
 n8:=h.n8
 cl:=by show ((mC m).set c _).length ≤ 256; rw [List.length_set]; exact h.cl
 sn:=h.sn
 dl:=h.dl
 wd:=h.wd
 ix:=fun x hx hx1=>by
   rcases List.mem_or_eq_of_mem_set hx with hx | hx
   · exact h.ix x hx hx1
   · subst hx; exact absurd hx1 hk
 r0:=h.r0
 r1:=h.r1
theorem putM_cl (m : Rim) (c : Nat) (x : List UInt8) : (mC (putM m c x)).length = (mC m).length:=by
 unfold putM
 split
 · rfl
 · show ((mC m).set c _).length = _
   rw [List.length_set]
theorem putM_dl (m : Rim) (c : Nat) (x : List UInt8) : (mD (putM m c x)).length ≤ (mD m).length + 1:=by
 unfold putM
 split
 · show ((mD m).set _ _).length ≤ _
   rw [List.length_set]; omega
 · show (mD m ++ [x]).length ≤ _
   rw [List.length_append]; exact Nat.le_refl _
theorem MOK.put {n : Nat} {m : Rim} (h : MOK n m) (c : Nat) {x : List UInt8} (hx : x.length = 16 * n) (hd : (mD m).length + 1 ≤ 100000) : MOK n (putM m c x) where
 nm:=by unfold putM; split <;> exact h.nm
 n1:=h.n1
 n8:=h.n8
 cl:=by rw [putM_cl]; exact h.cl
 sn:=by unfold putM; split <;> exact h.sn
 dl:=Nat.le_trans (putM_dl m c x) hd
 wd:=fun y hy=>by
   unfold putM at hy
   split at hy
   · rcases List.mem_or_eq_of_mem_set (show y ∈ (mD m).set _ x from hy) with hy | hy
     · exact h.wd y hy
     · subst hy; exact hx
   · rcases List.mem_append.1 (show y ∈ mD m ++ [x] from hy) with hy | hy
     · exact h.wd y hy
     · rw [List.mem_singleton] at hy; subst hy; exact hx
 ix:=fun y hy hk=>by
   unfold putM at hy ⊢
   split at hy
   · obtain ⟨i,e1,e2⟩:=h.ix y hy hk
     exact ⟨i,e1,by show i < ((mD m).set _ x).length; rw [List.length_set]; exact e2⟩
   · have e3 : (mD m ++ [x]).length = (mD m).length + 1:=by rw [List.length_append]; rfl
     rcases List.mem_or_eq_of_mem_set (show y ∈ (mC m).set c _ from hy) with hy | hy
     · obtain ⟨i,e1,e2⟩:=h.ix y hy hk
       exact ⟨i,e1,by show i < (mD m ++ [x]).length; omega⟩
     · subst hy
       exact ⟨(mD m).length,rfl,by show (mD m).length < (mD m ++ [x]).length; omega⟩
 r0:=by unfold putM; split <;> exact h.r0
 r1:=by unfold putM; split <;> exact h.r1
theorem clusM_len {n : Nat} {m : Rim} (h : MOK n m) {c : Nat} (hc : c < (mC m).length) (bel : List (List UInt8)) : (clusM n m c bel).length = 16 * n:=by
 unfold clusM
 rw [List.getElem?_eq_getElem hc]
 simp only
 split
 · rename_i h1
   obtain ⟨i,e1,e2⟩:=h.ix _ (List.getElem_mem hc) h1
   rw [show (ceI (mC m)[c]).toNat = i by omega,List.getD_eq_getElem?_getD,List.getElem?_eq_getElem e2]
   exact h.wd _ (List.getElem_mem e2)
 · split
   · split
     · split
       · assumption
       · exact List.length_replicate
     · exact List.length_replicate
   · exact List.length_replicate
/-! ### New -/
def newM (bits size room : Int) : Rim:=match newMay bits size room with
 | true=>mkM ((2 ^ bits.toNat : Nat) : Int) room (List.replicate size.toNat (mkCe 0 0)) [] []
 | false=>mkM 0 0 [] [] []
theorem newM_ok {bits size room : Int} (h : newMay bits size room = true) : MOK (2 ^ bits.toNat) (newM bits size room):=by
 obtain ⟨⟨a1,a2⟩,⟨a3,a4⟩,a5,a6⟩:=newMay_get h
 have hb : bits.toNat ≤ 3:=by omega
 have h8 : 2 ^ bits.toNat ≤ 2 ^ 3:=Nat.pow_le_pow_right (by omega) hb
 have h1 : 1 ≤ 2 ^ bits.toNat:=Nat.one_le_two_pow
 unfold newM
 rw [h]
 exact ⟨rfl,h1,h8,(by show (List.replicate _ _).length ≤ 256; rw [List.length_replicate]; omega),rfl,Nat.zero_le _,fun x hx=>absurd hx (List.not_mem_nil),fun x hx hk=>by
   have:=(List.mem_replicate.1 (show x ∈ List.replicate size.toNat (mkCe 0 0) from hx)).2
   subst this
   exact absurd hk (by decide),a3,a4⟩
/-! ### Read -/
/-- What stands in a sector. -/
def rdS (n : Nat) (m : Rim) (s : Nat) : List UInt8:=((clusM n m (s / n) []).take (16 * (s % n) + 16)).drop (16 * (s % n))
def rdTo (n : Nat) (m : Rim) (a : Nat) : Nat → List UInt8
 | 0=>[]
 | k + 1=>rdTo n m a k ++ rdS n m (a + k)
theorem rdS_len {n : Nat} {m : Rim} (h : MOK n m) {s : Nat} (hs : s < n * (mC m).length) : (rdS n m s).length = 16:=by
 have h1:=h.n1
 have hc : s / n < (mC m).length:=Nat.div_lt_of_lt_mul hs
 have hr : s % n < n:=Nat.mod_lt _ (by omega)
 unfold rdS
 rw [List.length_drop,List.length_take,clusM_len h hc]
 omega
theorem rdTo_len {n : Nat} {m : Rim} (h : MOK n m) {a : Nat} : ∀ k,a + k ≤ n * (mC m).length → (rdTo n m a k).length = 16 * k
 | 0,_=>rfl
 | k + 1,hk=>by
   rw [rdTo,List.length_append,rdTo_len h k (by omega),rdS_len h (by omega)]
   omega
def readM (n : Nat) (m : Rim) (a l : Int) : List UInt8 × Int:=if insE n (mC m).length a l = 0 then (rdTo n m a.toNat l.toNat,0) else ([],insE n (mC m).length a l)
theorem insE_zero {n c : Nat} {a l : Int} (h : insE n c a l = 0) : 0 ≤ l ∧ 0 ≤ a ∧ a + l ≤ ((n * c : Nat) : Int):=by
 unfold insE at h
 generalize ((n * c : Nat) : Int) = N at *
 split at h
 · cases h
 · split at h
   · cases h
   · split at h
     · cases h
     · split at h
       · cases h
       · omega
@[reducible] def qrdK (a l e : Int) (x : List UInt8) (s : Int) : KL:=[(1,vI a),(2,vI l),(3,vP 3),(8,.c (vErr e)),(9,vS x),(10,vI s)]
set_option maxHeartbeats 1000000 in
theorem mread_fn {n : Nat} {m : Rim} (h : MOK n m) (a l : Int) : Fn Tryz.prog 107 [imV m,vI a,vI l] [] [] (.tup [.one (.d (.str (readM n m a l).1)),vErr (readM n m a l).2]) []:=by
 have hn:=h.n8
 have hn1:=h.n1
 have hc:=h.cl
 have hb : n * (mC m).length ≤ 8 * 256:=Nat.mul_le_mul hn hc
 unfold readM
 refine Fn.of tblOK [] _ _ _ _ _ Tryz.func107 rfl rfl (by kernel_rfl) (by kernel_rfl) rfl (drawOK tblOK) rfl ?_
 refine ⟨rfl,?_⟩
 refine ⟨_,_,_,_,minside_fn h a l,trivial,rfl,?_⟩
 show TrQ _ _ _ _ _ _ _
 by_cases he : insE n (mC m).length a l = 0
 · rw [if_pos he]
   obtain ⟨b1,b2,b3⟩:=insE_zero he
   refine TrQ.loop tblOK (drawOK tblOK) [] (by kernel_rfl) (X:=Nat) (fun k=>qrdK a l (insE n (mC m).length a l) (rdTo n m a.toNat k) (a + (k : Nat))) (fun _=>[(3,.cells (imL m))]) (fun k=>(k : Int) ≤ l) (fun k=>l.toNat - k) 0 b1 ?_ ?_
   · refine Le.sub ⟨rfl,rfl,rfl,rfl,rfl,?_,trivial⟩ ⟨rfl,trivial⟩
     show a = a + ((0 : Nat) : Int)
     omega
   intro k hk
   refine ⟨fun _=>?_,fun h0=>absurd he (of_decide_eq_false h0)⟩
   refine ⟨by omega,?_⟩
   refine ⟨fun h1=>?_,fun h1=>?_⟩
   · have h1 : a + (k : Nat) < a + l:=of_decide_eq_true h1
     obtain ⟨s,hs⟩ : ∃ s : Nat,a + (k : Nat) = (s : Int):=⟨(a + (k : Nat)).toNat,by omega⟩
     have hsk : a.toNat + k = s:=by omega
     have hs2 : s < n * (mC m).length:=by omega
     have hq : ((s : Nat) : Int) / mN m = ((s / n : Nat) : Int):=by rw [h.nm]; exact (Int.natCast_ediv _ _).symm
     have hr : ((s : Nat) : Int) % mN m = ((s % n : Nat) : Int):=by rw [h.nm]; exact (Int.natCast_emod _ _).symm
     have hq2 : s / n < (mC m).length:=Nat.div_lt_of_lt_mul hs2
     have hr2 : s % n < n:=Nat.mod_lt _ (by omega)
     have e1:=rdTo_len h (a:=a.toNat) k (by omega)
     have e2:=rdS_len h hs2
     have e6 : rdTo n m a.toNat (k + 1) = rdTo n m a.toNat k ++ rdS n m s:=by rw [rdTo,hsk]
     have hnm:=h.nm
     unfold rdS at e2 e6
     generalize s / n = Q at *
     generalize s % n = R at *
     rw [hs]
     have z1 : (0 : Int) ≤ ((s : Nat) : Int) ∧ (0 : Int) < mN m:=by omega
     have z2 : -9223372036854775808 ≤ ((s : Nat) : Int) % mN m ∧ ((s : Nat) : Int) % mN m ≤ 9223372036854775807:=by rw [hr]; omega
     have z3 : -9223372036854775808 ≤ ((s : Nat) : Int) / mN m ∧ ((s : Nat) : Int) / mN m ≤ 9223372036854775807:=by rw [hq]; omega
     refine ⟨z1,z2,?_⟩
     refine ⟨z1,z3,?_⟩
     rw [hq,hr]
     refine ⟨_,_,_,_,Fn.arg (args:=[imV m,vI ((Q : Nat) : Int),v1 .nils]) (mclus_fn h hq2 [] (by decide)) ⟨⟨rfl,rfl,rfl,rfl,rfl,trivial⟩,rfl,rfl,trivial⟩,trivial,rfl,?_⟩
     have hl:=clusM_len h hq2 []
     have q1 : -9223372036854775808 ≤ 16 * ((R : Nat) : Int) ∧ 16 * ((R : Nat) : Int) ≤ 9223372036854775807:=by omega
     have q2 : -9223372036854775808 ≤ 16 * ((R : Nat) : Int) + 16 ∧ 16 * ((R : Nat) : Int) + 16 ≤ 9223372036854775807:=by omega
     have q4 : 0 ≤ 16 * ((R : Nat) : Int) ∧ 16 * ((R : Nat) : Int) ≤ 16 * ((R : Nat) : Int) + 16 ∧ 16 * ((R : Nat) : Int) + 16 ≤ (((clusM n m Q []).length : Nat) : Int):=by omega
     refine ⟨q1,q1,q2,q4,?_⟩
     have e7 : (16 * ((R : Nat) : Int) + 16).toNat = 16 * R + 16:=by omega
     have e8 : (16 * ((R : Nat) : Int)).toNat = 16 * R:=by omega
     have e5 : (rdTo n m a.toNat k).length + (((clusM n m Q []).take (16 * ((R : Nat) : Int) + 16).toNat).drop (16 * ((R : Nat) : Int)).toNat).length ≤ 4294967296:=by rw [e7,e8]; omega
     refine ⟨e5,?_⟩
     refine ⟨rfl,?_⟩
     refine ⟨by omega,k + 1,by omega,by omega,Le.sub ⟨rfl,rfl,rfl,rfl,?_,?_,trivial⟩ ⟨rfl,trivial⟩⟩
     · rw [e6,e7,e8]
       rfl
     · show (s : Int) + 1 = a + ((k + 1 : Nat) : Int)
       omega
   · have h1 : ¬ a + (k : Nat) < a + l:=of_decide_eq_false h1
     have hk1 : k = l.toNat:=by omega
     subst hk1
     exact ⟨_,_,_,Le.refl _ _,rfl,⟨rfl,he,trivial⟩,trivial,rfl⟩
 · rw [if_neg he]
   refine TrQ.loop tblOK (drawOK tblOK) [] (by kernel_rfl) (X:=Unit) (fun _=>qrdK a l (insE n (mC m).length a l) [] a) (fun _=>[(3,.cells (imL m))]) (fun _=>True) (fun _=>0) () trivial ?_ ?_
   · exact Le.sub ⟨rfl,rfl,rfl,rfl,rfl,rfl,trivial⟩ ⟨rfl,trivial⟩
   rintro ⟨⟩ -
   refine ⟨fun h0=>absurd (of_decide_eq_true h0) he,fun _=>?_⟩
   exact ⟨_,_,_,Le.refl _ _,rfl,⟨rfl,rfl,trivial⟩,trivial,rfl⟩
/-! ### Discard -/
def dcTo (n a l : Nat) (m : Rim) : Nat → Rim
 | 0=>m
 | k + 1=>if insTo n k a l n = n then setM (dcTo n a l m k) k (mkCe 0 0) else dcTo n a l m k
theorem dcTo_cl (n a l : Nat) (m : Rim) : ∀ k,(mC (dcTo n a l m k)).length = (mC m).length
 | 0=>rfl
 | k + 1=>by
   have:=dcTo_cl n a l m k
   unfold dcTo
   split
   · show ((mC (dcTo n a l m k)).set _ _).length = _
     rw [List.length_set,this]
   · exact this
theorem MOK.dc {n : Nat} {m : Rim} (h : MOK n m) (a l : Nat) : ∀ k,MOK n (dcTo n a l m k)
 | 0=>h
 | k + 1=>by
   unfold dcTo
   split
   · exact (MOK.dc h a l k).set k (by decide)
   · exact MOK.dc h a l k
def discM (n : Nat) (m : Rim) (a l : Int) : Rim × Int:=if insE n (mC m).length a l = 0 then (dcTo n a.toNat l.toNat m (mC m).length,0) else (m,insE n (mC m).length a l)
@[reducible] def dsK (a l e : Int) (k : Nat) : KL:=[(1,vI a),(2,vI l),(3,vP 3),(6,vP 6),(8,.c (vErr e)),(9,vI (k : Nat))]
@[reducible] def dsZ (m : Rim) : BL:=[(3,.cells (imL m)),(6,.cells tbl.t104.zero)]
set_option maxHeartbeats 1000000 in
theorem mdisc_fn {n : Nat} {m : Rim} (h : MOK n m) (a l : Int) : Fn Tryz.prog 123 [imV m,vI a,vI l] [] [] (.tup [.agg (imL (discM n m a l).1),vErr (discM n m a l).2]) []:=by
 have hn:=h.n8
 have hn1:=h.n1
 have hc:=h.cl
 have hb : n * (mC m).length ≤ 8 * 256:=Nat.mul_le_mul hn hc
 unfold discM
 refine Fn.of tblOK [] _ _ _ _ _ Tryz.func123 rfl rfl (by kernel_rfl) (by kernel_rfl) rfl (drawOK tblOK) rfl ?_
 refine ⟨rfl,?_⟩
 refine ⟨rfl,?_⟩
 refine ⟨_,_,_,_,minside_fn h a l,trivial,rfl,?_⟩
 show TrQ _ _ _ _ _ _ _
 by_cases he : insE n (mC m).length a l = 0
 · rw [if_pos he]
   obtain ⟨b1,b2,b3⟩:=insE_zero he
   refine TrQ.loop tblOK (drawOK tblOK) [] (by kernel_rfl) (X:=Nat) (fun k=>dsK a l (insE n (mC m).length a l) k) (fun k=>dsZ (dcTo n a.toNat l.toNat m k)) (fun k=>k ≤ (mC m).length) (fun k=>(mC m).length - k) 0 (Nat.zero_le _) ?_ ?_
   · exact Le.sub ⟨rfl,rfl,rfl,rfl,rfl,rfl,trivial⟩ ⟨rfl,rfl,trivial⟩
   intro k hk
   have hcl:=dcTo_cl n a.toNat l.toNat m k
   have hM:=h.dc a.toNat l.toNat k
   refine ⟨fun h1=>?_,fun h1=>?_⟩
   · have h1 : ((k : Nat) : Int) < (((mC (dcTo n a.toNat l.toNat m k)).length : Nat) : Int):=of_decide_eq_true h1
     rw [hcl] at h1
     refine ⟨fun _=>?_,fun h0=>absurd he (of_decide_eq_false h0)⟩
     refine ⟨_,_,_,_,Fn.arg (args:=[imV (dcTo n a.toNat l.toNat m k),vI (k : Int),vI a,vI l]) (minsC_fn hM (c:=k) (a:=a.toNat) (l:=l.toNat) (by omega) (by omega) (by omega)) ⟨⟨rfl,rfl,rfl,rfl,rfl,trivial⟩,rfl,(Int.toNat_of_nonneg b2).symm,(Int.toNat_of_nonneg b1).symm,trivial⟩,trivial,rfl,?_⟩
     refine ⟨rfl,fun h2=>?_,fun h2=>?_⟩
     · have h2 : ((insTo n k a.toNat l.toNat n : Nat) : Int) = mN (dcTo n a.toNat l.toNat m k):=of_decide_eq_true h2
       rw [hM.nm] at h2
       have e : dcTo n a.toNat l.toNat m (k + 1) = setM (dcTo n a.toNat l.toNat m k) k (mkCe 0 0):=if_pos (by omega)
       refine ⟨_,_,_,_,mset_fn (dcTo n a.toNat l.toNat m k) (by omega) (by omega) (mkCe 0 0),trivial,rfl,?_⟩
       refine ⟨by omega,k + 1,by omega,by omega,Le.sub ⟨rfl,rfl,rfl,rfl,rfl,rfl,trivial⟩ ⟨?_,rfl,trivial⟩⟩
       rw [e]
       rfl
     · have h2 : ¬ ((insTo n k a.toNat l.toNat n : Nat) : Int) = mN (dcTo n a.toNat l.toNat m k):=of_decide_eq_false h2
       rw [hM.nm] at h2
       have e : dcTo n a.toNat l.toNat m (k + 1) = dcTo n a.toNat l.toNat m k:=if_neg (by omega)
       refine ⟨by omega,k + 1,by omega,by omega,Le.sub ⟨rfl,rfl,rfl,rfl,rfl,rfl,trivial⟩ ⟨?_,rfl,trivial⟩⟩
       rw [e]
       rfl
   · have h1 : ¬ ((k : Nat) : Int) < (((mC (dcTo n a.toNat l.toNat m k)).length : Nat) : Int):=of_decide_eq_false h1
     rw [hcl] at h1
     have hk1 : k = (mC m).length:=by omega
     subst hk1
     exact ⟨_,_,_,Le.refl _ _,rfl,⟨⟨rfl,rfl,rfl,rfl,rfl,trivial⟩,he,trivial⟩,trivial,rfl⟩
 · rw [if_neg he]
   refine TrQ.loop tblOK (drawOK tblOK) [] (by kernel_rfl) (X:=Unit) (fun _=>dsK a l (insE n (mC m).length a l) 0) (fun _=>dsZ m) (fun _=>True) (fun _=>0) () trivial ?_ ?_
   · exact Le.sub ⟨rfl,rfl,rfl,rfl,rfl,rfl,trivial⟩ ⟨rfl,rfl,trivial⟩
   rintro ⟨⟩ -
   refine ⟨fun h1=>?_,fun _=>?_⟩
   · refine ⟨fun h0=>absurd (of_decide_eq_true h0) he,fun _=>?_⟩
     exact ⟨_,_,_,Le.refl _ _,rfl,⟨⟨rfl,rfl,rfl,rfl,rfl,trivial⟩,rfl,trivial⟩,trivial,rfl⟩
   · exact ⟨_,_,_,Le.refl _ _,rfl,⟨⟨rfl,rfl,rfl,rfl,rfl,trivial⟩,rfl,trivial⟩,trivial,rfl⟩
end Go.Proofs.YteoamepgonpdlaaGreat
/-!
  The document's image (layer 12): Write, Do.
-/
namespace Go.Proofs.YteoamepgonpdlaaGreat
set_option linter.unusedVariables false
set_option linter.unusedSimpArgs false
set_option maxRecDepth 10000
open Go.RowKit Go.Proofs
def kdM (m : Rim) (c : Nat) : Int:=ceK ((mC m).getD c (mkCe 0 0))
theorem kdM_at {m : Rim} {c : Nat} (hc : c < (mC m).length) : kdM m c = ceK (mC m)[c]:=by
 unfold kdM
 rw [List.getD_eq_getElem?_getD,List.getElem?_eq_getElem hc]
 rfl
/-- Does a cluster want one more? -/
def qwants (n a l : Nat) (zero : Bool) (m : Rim) (c : Nat) : Bool :=
 decide (0 < insTo n c a l n) && !(zero && (decide (insTo n c a l n = n) || decide (kdM m c = 2))) && !qown m c
def needTo (n a l : Nat) (zero : Bool) (m : Rim) : Nat → Nat
 | 0=>0
 | k + 1=>match qwants n a l zero m k with
   | true=>needTo n a l zero m k + 1
   | false=>needTo n a l zero m k
theorem needTo_le (n a l : Nat) (zero : Bool) (m : Rim) : ∀ k,needTo n a l zero m k ≤ k
 | 0=>Nat.le_refl _
 | k + 1=>by
   have:=needTo_le n a l zero m k
   unfold needTo
   split <;> omega
def stepW (n a l : Nat) (b : List UInt8) (bel : List (List UInt8)) (zero : Bool) (m : Rim) (c : Nat) : Rim :=
 if insTo n c a l n = 0 then m
 else if zero = true ∧ insTo n c a l n < n ∧ kdM m c = 2 then m
 else if zero = true ∧ insTo n c a l n = n then setM m c (mkCe 2 0)
 else putM m c (ldTo n c a (clusM n m c bel) b n)
def wTo (n a l : Nat) (b : List UInt8) (bel : List (List UInt8)) (zero : Bool) (m : Rim) : Nat → Rim
 | 0=>m
 | k + 1=>stepW n a l b bel zero (wTo n a l b bel zero m k) k
theorem stepW_cl (n a l : Nat) (b : List UInt8) (bel : List (List UInt8)) (zero : Bool) (m : Rim) (c : Nat) : (mC (stepW n a l b bel zero m c)).length = (mC m).length:=by
 unfold stepW
 split
 · rfl
 · split
   · rfl
   · split
     · show ((mC m).set _ _).length = _; rw [List.length_set]
     · exact putM_cl ..
theorem stepW_dl (n a l : Nat) (b : List UInt8) (bel : List (List UInt8)) (zero : Bool) (m : Rim) (c : Nat) : (mD (stepW n a l b bel zero m c)).length ≤ (mD m).length + 1:=by
 unfold stepW
 split
 · exact Nat.le_succ _
 · split
   · exact Nat.le_succ _
   · split
     · exact Nat.le_succ _
     · exact putM_dl ..
theorem wTo_cl (n a l : Nat) (b : List UInt8) (bel : List (List UInt8)) (zero : Bool) (m : Rim) : ∀ k,(mC (wTo n a l b bel zero m k)).length = (mC m).length
 | 0=>rfl
 | k + 1=>by rw [wTo,stepW_cl,wTo_cl]
theorem wTo_dl (n a l : Nat) (b : List UInt8) (bel : List (List UInt8)) (zero : Bool) (m : Rim) : ∀ k,(mD (wTo n a l b bel zero m k)).length ≤ (mD m).length + k
 | 0=>Nat.le_refl _
 | k + 1=>by
   have h1:=stepW_dl n a l b bel zero (wTo n a l b bel zero m k) k
   have h2:=wTo_dl n a l b bel zero m k
   rw [wTo]
   omega
theorem MOK.step {n : Nat} {m : Rim} (h : MOK n m) (a l : Nat) (b : List UInt8) (bel : List (List UInt8)) (zero : Bool) {c : Nat} (hc : c < (mC m).length) (hd : (mD m).length + 1 ≤ 100000) : MOK n (stepW n a l b bel zero m c):=by
 unfold stepW
 split
 · exact h
 · split
   · exact h
   · split
     · exact h.set c (by decide)
     · refine h.put c ?_ hd
       exact ldTo_len n (Nat.le_of_eq (clusM_len h hc bel).symm)
theorem MOK.wr {n : Nat} {m : Rim} (h : MOK n m) (a l : Nat) (b : List UInt8) (bel : List (List UInt8)) (zero : Bool) (hd : (mD m).length + 256 ≤ 100000) : ∀ k,k ≤ (mC m).length → MOK n (wTo n a l b bel zero m k)
 | 0,_=>h
 | k + 1,hk=>by
   have h1:=h.wr a l b bel zero hd k (by omega)
   have h2:=wTo_dl n a l b bel zero m k
   have h3:=h.cl
   exact h1.step a l b bel zero (by rw [wTo_cl]; omega) (by omega)
def writeM (n : Nat) (m : Rim) (a : Int) (b : List UInt8) (bel : List (List UInt8)) (zero : Bool) : Rim × Int :=
 if b.length % 16 ≠ 0 then (m,1)
 else if insE n (mC m).length a (b.length / 16 : Nat) = 0 then
   (if freeM m < (needTo n a.toNat (b.length / 16) zero m (mC m).length : Nat) then (m,120) else (wTo n a.toNat (b.length / 16) b bel zero m (mC m).length,0))
 else (m,insE n (mC m).length a (b.length / 16 : Nat))
@[reducible] def wK0 (a : Int) (b : List UInt8) (bel : List (List UInt8)) (zero : Bool) (l : Nat) (x k : Nat) : KL:=[(1,vI a),(2,vS b),(3,vL .str bel),(4,vB zero),(5,vP 5),(10,vP 10),(12,vI (l : Nat)),(14,vI (x : Nat)),(15,vI (k : Nat))]
@[reducible] def wK1 (a : Int) (b : List UInt8) (bel : List (List UInt8)) (zero : Bool) (l : Nat) (k : Nat) : KL:=[(1,vI a),(2,vS b),(3,vL .str bel),(4,vB zero),(5,vP 5),(10,vP 10),(12,vI (l : Nat)),(18,vI (k : Nat))]
@[reducible] def wZ (m : Rim) : BL:=[(5,.cells (imL m)),(10,.cells tbl.t104.zero)]
set_option maxHeartbeats 4000000 in
theorem mwrite_fn {n : Nat} {m : Rim} (h : MOK n m) (a : Int) (b : List UInt8) (bel : List (List UInt8)) (zero : Bool) (hb : b.length ≤ 1000000) (hbl : bel.length ≤ 1000000) (hd : (mD m).length + 256 ≤ 100000) :
   Fn Tryz.prog 122 [imV m,vI a,vS b,vL .str bel,vB zero] [] [] (.tup [.agg (imL (writeM n m a b bel zero).1),vErr (writeM n m a b bel zero).2]) []:=by
 have hn:=h.n8
 have hn1:=h.n1
 have hc:=h.cl
 have hnc : n * (mC m).length ≤ 8 * 256:=Nat.mul_le_mul hn hc
 have hdl:=h.dl
 unfold writeM
 refine Fn.of tblOK [] _ _ _ _ _ Tryz.func122 rfl rfl (by kernel_rfl) (by kernel_rfl) rfl (drawOK tblOK) rfl ?_
 refine ⟨rfl,?_⟩
 refine ⟨rfl,?_⟩
 have d1 : (0 : Int) ≤ ((b.length : Nat) : Int) ∧ (0 : Int) < 16:=by omega
 have d2 : -9223372036854775808 ≤ ((b.length : Nat) : Int) % 16 ∧ ((b.length : Nat) : Int) % 16 ≤ 9223372036854775807:=by omega
 have d3 : -9223372036854775808 ≤ ((b.length : Nat) : Int) / 16 ∧ ((b.length : Nat) : Int) / 16 ≤ 9223372036854775807:=by omega
 refine ⟨d1,d2,?_⟩
 refine ⟨fun c1=>?_,fun c1=>?_⟩
 · have c1 : (!decide (((b.length : Nat) : Int) % 16 = 0)) = true:=c1
   have c1 : ¬ ((b.length : Nat) : Int) % 16 = 0:=by simpa using c1
   rw [if_pos (by omega)]
   exact ⟨_,_,_,Le.refl _ _,rfl,⟨⟨rfl,rfl,rfl,rfl,rfl,trivial⟩,rfl,trivial⟩,trivial,rfl⟩
 have c1 : (!decide (((b.length : Nat) : Int) % 16 = 0)) = false:=c1
 have c1 : ((b.length : Nat) : Int) % 16 = 0:=by simpa using c1
 rw [if_neg (by omega)]
 refine ⟨d1,d3,?_⟩
 have e16 : ((b.length : Nat) : Int) / 16 = ((b.length / 16 : Nat) : Int):=by omega
 rw [e16]
 obtain ⟨l,hl⟩ : ∃ l : Nat,l = b.length / 16:=⟨_,rfl⟩
 rw [← hl] at *
 refine ⟨_,_,_,_,minside_fn h a (l : Nat),trivial,rfl,?_⟩
 refine ⟨fun c2=>?_,fun c2=>?_⟩
 · have c2 : (!decide (insE n (mC m).length a (l : Nat) = 0)) = true:=c2
   have c2 : ¬ insE n (mC m).length a (l : Nat) = 0:=by simpa using c2
   rw [if_neg c2]
   exact ⟨_,_,_,Le.refl _ _,rfl,⟨⟨rfl,rfl,rfl,rfl,rfl,trivial⟩,rfl,trivial⟩,trivial,rfl⟩
 have c2 : (!decide (insE n (mC m).length a (l : Nat) = 0)) = false:=c2
 have c2 : insE n (mC m).length a (l : Nat) = 0:=by simpa using c2
 rw [if_pos c2]
 obtain ⟨b1,b2,b3⟩:=insE_zero c2
 obtain ⟨A,hA⟩ : ∃ A : Nat,a = (A : Int):=⟨a.toNat,by omega⟩
 subst hA
 rw [Int.toNat_natCast]
 show TrQ _ _ _ _ _ _ _
 refine TrQ.loop tblOK (drawOK tblOK) [] (by kernel_rfl) (X:=Nat) (fun k=>wK0 A b bel zero l (needTo n A l zero m k) k) (fun _=>wZ m) (fun k=>k ≤ (mC m).length) (fun k=>(mC m).length - k) 0 (Nat.zero_le _) ?_ ?_
 · exact Le.sub ⟨rfl,rfl,rfl,rfl,rfl,rfl,rfl,rfl,rfl,trivial⟩ ⟨rfl,rfl,trivial⟩
 · intro k hk
   have hu:=needTo_le n A l zero m k
   refine ⟨fun h1=>?_,fun h1=>?_⟩
   · have h1 : ((k : Nat) : Int) < (((mC m).length : Nat) : Int):=of_decide_eq_true h1
     have hk1 : k < (mC m).length:=by omega
     have hkd:=kdM_at hk1
     have e : needTo n A l zero m (k + 1) = match qwants n A l zero m k with
       | true=>needTo n A l zero m k + 1
       | false=>needTo n A l zero m k:=rfl
     have stay : qwants n A l zero m k = false → ((needTo n A l zero m k : Nat) : Int) = ((needTo n A l zero m (k + 1) : Nat) : Int):=fun hw=>by rw [e,hw]
     have more : qwants n A l zero m k = true → ((needTo n A l zero m k : Nat) : Int) + 1 = ((needTo n A l zero m (k + 1) : Nat) : Int):=fun hw=>by rw [e,hw]; rfl
     have r1 : -9223372036854775808 ≤ ((k : Nat) : Int) + 1 ∧ ((k : Nat) : Int) + 1 ≤ 9223372036854775807:=by omega
     have r2 : -9223372036854775808 ≤ ((needTo n A l zero m k : Nat) : Int) + 1 ∧ ((needTo n A l zero m k : Nat) : Int) + 1 ≤ 9223372036854775807:=by omega
     have hown:=mown_fn h hk1
     refine ⟨_,_,_,_,minsC_fn h (c:=k) (a:=A) (l:=l) (by omega) (by omega) (by omega),trivial,rfl,?_⟩
     clear e
     refine ⟨fun z1=>?_,fun z1=>?_⟩
     · have z1 : zero = true:=z1
       refine ⟨fun f1=>?_,fun f1=>?_⟩
       · have f1 : ((insTo n k A l n : Nat) : Int) = mN m:=of_decide_eq_true f1
         have f1 : insTo n k A l n = n:=by rw [h.nm] at f1; omega
         have hw : qwants n A l zero m k = false:=by unfold qwants; rw [z1,f1]; simp
         refine ⟨fun g1=>?_,fun g1=>?_⟩
         · exact ⟨r1,k + 1,by omega,by omega,Le.sub ⟨rfl,rfl,rfl,rfl,rfl,rfl,rfl,stay hw,rfl,trivial⟩ ⟨rfl,rfl,trivial⟩⟩
         · exact ⟨r1,k + 1,by omega,by omega,Le.sub ⟨rfl,rfl,rfl,rfl,rfl,rfl,rfl,stay hw,rfl,trivial⟩ ⟨rfl,rfl,trivial⟩⟩
       · have f1 : ¬ ((insTo n k A l n : Nat) : Int) = mN m:=of_decide_eq_false f1
         have f1 : ¬ insTo n k A l n = n:=by rw [h.nm] at f1; omega
         refine ⟨by omega,(mC m)[k],lgAt (n:=k) hk1,?_⟩
         refine ⟨fun g1=>?_,fun g1=>?_⟩
         · have g1 : (0 : Int) < ((insTo n k A l n : Nat) : Int):=of_decide_eq_true g1
           refine ⟨fun g2=>?_,fun g2=>?_⟩
           · have g2 : (!decide (ceK (mC m)[k] = 2)) = true:=g2
             have g2 : ¬ kdM m k = 2:=by rw [hkd]; simpa using g2
             refine ⟨_,_,_,_,hown,trivial,rfl,?_⟩
             refine ⟨fun g3=>?_,fun g3=>?_⟩
             · have g3 : (!qown m k) = true:=g3
               have hw : qwants n A l zero m k = true:=by unfold qwants; rw [z1,g3,decide_eq_true (show 0 < insTo n k A l n by omega),decide_eq_false f1,decide_eq_false g2]; rfl
               exact ⟨r2,r1,k + 1,by omega,by omega,Le.sub ⟨rfl,rfl,rfl,rfl,rfl,rfl,rfl,more hw,rfl,trivial⟩ ⟨rfl,rfl,trivial⟩⟩
             · have g3 : (!qown m k) = false:=g3
               have hw : qwants n A l zero m k = false:=by unfold qwants; rw [g3,Bool.and_false]
               exact ⟨r1,k + 1,by omega,by omega,Le.sub ⟨rfl,rfl,rfl,rfl,rfl,rfl,rfl,stay hw,rfl,trivial⟩ ⟨rfl,rfl,trivial⟩⟩
           · have g2 : (!decide (ceK (mC m)[k] = 2)) = false:=g2
             have g2 : kdM m k = 2:=by rw [hkd]; simpa using g2
             have hw : qwants n A l zero m k = false:=by unfold qwants; rw [z1,decide_eq_true g2]; simp
             exact ⟨r1,k + 1,by omega,by omega,Le.sub ⟨rfl,rfl,rfl,rfl,rfl,rfl,rfl,stay hw,rfl,trivial⟩ ⟨rfl,rfl,trivial⟩⟩
         · have g1 : ¬ (0 : Int) < ((insTo n k A l n : Nat) : Int):=of_decide_eq_false g1
           have hw : qwants n A l zero m k = false:=by unfold qwants; rw [decide_eq_false (show ¬ 0 < insTo n k A l n by omega)]; simp
           exact ⟨r1,k + 1,by omega,by omega,Le.sub ⟨rfl,rfl,rfl,rfl,rfl,rfl,rfl,stay hw,rfl,trivial⟩ ⟨rfl,rfl,trivial⟩⟩
     · have z1 : zero = false:=z1
       refine ⟨fun g1=>?_,fun g1=>?_⟩
       · have g1 : (0 : Int) < ((insTo n k A l n : Nat) : Int):=of_decide_eq_true g1
         refine ⟨_,_,_,_,hown,trivial,rfl,?_⟩
         refine ⟨fun g3=>?_,fun g3=>?_⟩
         · have g3 : (!qown m k) = true:=g3
           have hw : qwants n A l zero m k = true:=by unfold qwants; rw [z1,g3,decide_eq_true (show 0 < insTo n k A l n by omega)]; rfl
           exact ⟨r2,r1,k + 1,by omega,by omega,Le.sub ⟨rfl,rfl,rfl,rfl,rfl,rfl,rfl,more hw,rfl,trivial⟩ ⟨rfl,rfl,trivial⟩⟩
         · have g3 : (!qown m k) = false:=g3
           have hw : qwants n A l zero m k = false:=by unfold qwants; rw [g3,Bool.and_false]
           exact ⟨r1,k + 1,by omega,by omega,Le.sub ⟨rfl,rfl,rfl,rfl,rfl,rfl,rfl,stay hw,rfl,trivial⟩ ⟨rfl,rfl,trivial⟩⟩
       · have g1 : ¬ (0 : Int) < ((insTo n k A l n : Nat) : Int):=of_decide_eq_false g1
         have hw : qwants n A l zero m k = false:=by unfold qwants; rw [decide_eq_false (show ¬ 0 < insTo n k A l n by omega)]; simp
         exact ⟨r1,k + 1,by omega,by omega,Le.sub ⟨rfl,rfl,rfl,rfl,rfl,rfl,rfl,stay hw,rfl,trivial⟩ ⟨rfl,rfl,trivial⟩⟩
   · have h1 : ¬ ((k : Nat) : Int) < (((mC m).length : Nat) : Int):=of_decide_eq_false h1
     have hk1 : k = (mC m).length:=by omega
     subst hk1
     refine ⟨_,_,_,_,mfree_fn h,trivial,rfl,?_⟩
     refine ⟨fun c3=>?_,fun c3=>?_⟩
     · have c3 : freeM m < ((needTo n A l zero m (mC m).length : Nat) : Int):=of_decide_eq_true c3
       rw [if_pos c3]
       exact ⟨_,_,_,Le.refl _ _,rfl,⟨⟨rfl,rfl,rfl,rfl,rfl,trivial⟩,rfl,trivial⟩,trivial,rfl⟩
     have c3 : ¬ freeM m < ((needTo n A l zero m (mC m).length : Nat) : Int):=of_decide_eq_false c3
     rw [if_neg c3]
     show TrQ _ _ _ _ _ _ _
     refine TrQ.loop tblOK (drawOK tblOK) [] (by kernel_rfl) (X:=Nat) (fun k=>wK1 A b bel zero l k) (fun k=>wZ (wTo n A l b bel zero m k)) (fun k=>k ≤ (mC m).length) (fun k=>(mC m).length - k) 0 (Nat.zero_le _) ?_ ?_
     · exact Le.sub ⟨rfl,rfl,rfl,rfl,rfl,rfl,rfl,rfl,trivial⟩ ⟨rfl,rfl,trivial⟩
     intro k hk
     have hcl:=wTo_cl n A l b bel zero m k
     have hM:=h.wr A l b bel zero hd k hk
     have hdk:=wTo_dl n A l b bel zero m k
     have hcl3:=hM.cl
     have e : wTo n A l b bel zero m (k + 1) = stepW n A l b bel zero (wTo n A l b bel zero m k) k:=rfl
     generalize hX : wTo n A l b bel zero m k = X at *
     refine ⟨fun h1=>?_,fun h1=>?_⟩
     · have h1 : ((k : Nat) : Int) < (((mC X).length : Nat) : Int):=of_decide_eq_true h1
       have hk1 : k < (mC X).length:=by omega
       have hkd:=kdM_at hk1
       have r1 : -9223372036854775808 ≤ ((k : Nat) : Int) + 1 ∧ ((k : Nat) : Int) + 1 ≤ 9223372036854775807:=by omega
       have nx : ∀ Y,stepW n A l b bel zero X k = Y → wTo n A l b bel zero m (k + 1) = Y:=fun Y hY=>e.trans hY
       have hclu:=mclus_fn hM hk1 bel hbl
       have hcll:=clusM_len hM hk1 bel
       have hlaid:=mlaid_fn hM (c:=k) (a:=A) (x:=clusM n X k bel) (b:=b) (by omega) (by omega) hcll hb
       have hput:=mput_fn hM hk1 (ldTo n k A (clusM n X k bel) b n)
       have hset:=mset_fn X (c:=k) (by omega) hk1 (mkCe 2 0)
       have done : ∀ Y,stepW n A l b bel zero X k = Y → some (Ch.cells (imL Y)) = some (Ch.cells (imL (wTo n A l b bel zero m (k + 1)))):=fun Y hY=>by rw [nx Y hY]
       clear e
       refine ⟨_,_,_,_,minsC_fn hM (c:=k) (a:=A) (l:=l) (by omega) (by omega) (by omega),trivial,rfl,?_⟩
       refine ⟨fun f0=>?_,fun f0=>?_⟩
       · have f0 : ((insTo n k A l n : Nat) : Int) = 0:=of_decide_eq_true f0
         have hs : stepW n A l b bel zero X k = X:=if_pos (by omega)
         exact ⟨r1,k + 1,by omega,by omega,Le.sub ⟨rfl,rfl,rfl,rfl,rfl,rfl,rfl,rfl,trivial⟩ ⟨done X hs,rfl,trivial⟩⟩
       have f0 : ¬ ((insTo n k A l n : Nat) : Int) = 0:=of_decide_eq_false f0
       have s0 : stepW n A l b bel zero X k = if zero = true ∧ insTo n k A l n < n ∧ kdM X k = 2 then X else if zero = true ∧ insTo n k A l n = n then setM X k (mkCe 2 0) else putM X k (ldTo n k A (clusM n X k bel) b n):=if_neg (by omega)
       refine ⟨fun z1=>?_,fun z1=>?_⟩
       · have z1 : zero = true:=z1
         refine ⟨fun f1=>?_,fun f1=>?_⟩
         · have f1 : ((insTo n k A l n : Nat) : Int) < mN X:=of_decide_eq_true f1
           rw [hM.nm] at f1
           refine ⟨by omega,(mC X)[k],lgAt (n:=k) hk1,?_⟩
           refine ⟨fun f2=>?_,fun f2=>?_⟩
           · have f2 : ceK (mC X)[k] = 2:=of_decide_eq_true f2
             have hs : stepW n A l b bel zero X k = X:=by rw [s0,if_pos ⟨z1,by omega,by rw [hkd]; exact f2⟩]
             exact ⟨r1,k + 1,by omega,by omega,Le.sub ⟨rfl,rfl,rfl,rfl,rfl,rfl,rfl,rfl,trivial⟩ ⟨done X hs,rfl,trivial⟩⟩
           · have f2 : ¬ ceK (mC X)[k] = 2:=of_decide_eq_false f2
             rw [if_neg (fun q=>f2 (by rw [← hkd]; exact q.2.2)),if_neg (by omega)] at s0
             refine ⟨fun _=>?_,fun z2=>absurd (z1.symm.trans z2) (by decide)⟩
             refine ⟨fun f3=>?_,fun _=>?_⟩
             · exfalso
               have f3 : ((insTo n k A l n : Nat) : Int) = mN X:=of_decide_eq_true f3
               rw [hM.nm] at f3
               omega
             refine ⟨_,_,_,_,hclu,trivial,rfl,?_⟩
             refine ⟨_,_,_,_,hlaid,trivial,rfl,?_⟩
             refine ⟨_,_,_,_,hput,trivial,rfl,?_⟩
             refine ⟨rfl,?_⟩
             exact ⟨r1,k + 1,by omega,by omega,Le.sub ⟨rfl,rfl,rfl,rfl,rfl,rfl,rfl,rfl,trivial⟩ ⟨done _ s0,rfl,trivial⟩⟩
         · have f1 : ¬ ((insTo n k A l n : Nat) : Int) < mN X:=of_decide_eq_false f1
           rw [hM.nm] at f1
           rw [if_neg (by omega)] at s0
           refine ⟨fun _=>?_,fun z2=>absurd (z1.symm.trans z2) (by decide)⟩
           refine ⟨fun f3=>?_,fun f3=>?_⟩
           · have f3 : ((insTo n k A l n : Nat) : Int) = mN X:=of_decide_eq_true f3
             rw [hM.nm] at f3
             rw [if_pos ⟨z1,by omega⟩] at s0
             refine ⟨_,_,_,_,hset,trivial,rfl,?_⟩
             exact ⟨r1,k + 1,by omega,by omega,Le.sub ⟨rfl,rfl,rfl,rfl,rfl,rfl,rfl,rfl,trivial⟩ ⟨done _ s0,rfl,trivial⟩⟩
           · have f3 : ¬ ((insTo n k A l n : Nat) : Int) = mN X:=of_decide_eq_false f3
             rw [hM.nm] at f3
             rw [if_neg (by omega)] at s0
             refine ⟨_,_,_,_,hclu,trivial,rfl,?_⟩
             refine ⟨_,_,_,_,hlaid,trivial,rfl,?_⟩
             refine ⟨_,_,_,_,hput,trivial,rfl,?_⟩
             refine ⟨rfl,?_⟩
             exact ⟨r1,k + 1,by omega,by omega,Le.sub ⟨rfl,rfl,rfl,rfl,rfl,rfl,rfl,rfl,trivial⟩ ⟨done _ s0,rfl,trivial⟩⟩
       · have z1 : zero = false:=z1
         rw [if_neg (fun q=>absurd (z1.symm.trans q.1) (by decide)),if_neg (fun q=>absurd (z1.symm.trans q.1) (by decide))] at s0
         refine ⟨fun z2=>absurd (z1.symm.trans z2) (by decide),fun _=>?_⟩
         refine ⟨_,_,_,_,hclu,trivial,rfl,?_⟩
         refine ⟨_,_,_,_,hlaid,trivial,rfl,?_⟩
         refine ⟨_,_,_,_,hput,trivial,rfl,?_⟩
         refine ⟨rfl,?_⟩
         exact ⟨r1,k + 1,by omega,by omega,Le.sub ⟨rfl,rfl,rfl,rfl,rfl,rfl,rfl,rfl,trivial⟩ ⟨done _ s0,rfl,trivial⟩⟩
     · have h1 : ¬ ((k : Nat) : Int) < (((mC X).length : Nat) : Int):=of_decide_eq_false h1
       have hk1 : k = (mC m).length:=by omega
       subst hk1
       rw [hX]
       exact ⟨_,_,_,Le.refl _ _,rfl,⟨⟨rfl,rfl,rfl,rfl,rfl,trivial⟩,rfl,trivial⟩,trivial,rfl⟩
end Go.Proofs.YteoamepgonpdlaaGreat
/-!
  The document's chain (layer 14): its values; Find, Depth, put, Users, Names, With.
-/
namespace Go.Proofs.YteoamepgonpdlaaGreat
set_option linter.unusedVariables false
set_option linter.unusedSimpArgs false
set_option maxRecDepth 10000
open Go.RowKit Go.Proofs
@[reducible] def uDk : U:=.pr .str (.pr .str uIm)
abbrev Rdk:=El uDk
@[reducible] def dN (d : Rdk) : List UInt8:=d.1
@[reducible] def dB (d : Rdk) : List UInt8:=d.2.1
@[reducible] def dIm (d : Rdk) : Rim:=d.2.2
@[reducible] def mkDk (n b : List UInt8) (m : Rim) : Rdk:=(n,b,m)
@[reducible] def dkL (d : Rdk) : List S1:=.d (.str (dN d)) :: .d (.str (dB d)) :: imL (dIm d)
@[reducible] def dkV (d : Rdk) : SV:=.c (.agg (dkL d))
@[reducible] def rcL (bits room : Int) (l : List Rdk) : List S1:=[.d (.int .i64 bits),.d (.int .i64 room),.d (.lst uDk l)]
@[reducible] def rcV (bits room : Int) (l : List Rdk) : SV:=.c (.agg (rcL bits room l))
/-! ### Find -/
def fdR (l : List Rdk) (n : List UInt8) : Option Nat:=l.findIdx? fun p=>decide (dN p = n)
def fdI (l : List Rdk) (n : List UInt8) : Int:=match fdR l n with
 | some i=>(i : Nat)
 | none=>-1
def gtR : List Rdk → List UInt8 → Option Rdk
 | [],_=>none
 | p :: l,n=>if dN p = n then some p else gtR l n
theorem fdR_cases (l : List Rdk) (n : List UInt8) : (fdR l n = none ∧ gtR l n = none) ∨ ∃ (i : Nat) (hi : i < l.length),fdR l n = some i ∧ gtR l n = some l[i] ∧ dN l[i] = n:=by
 induction l with
 | nil=>exact .inl ⟨rfl,rfl⟩
 | cons p l ih =>
   unfold fdR at ih ⊢
   rw [List.findIdx?_cons]
   by_cases h : dN p = n
   · rw [decide_eq_true h]
     exact .inr ⟨0,Nat.zero_lt_succ _,rfl,(by rw [gtR,if_pos h]; rfl),h⟩
   · rw [decide_eq_false h,gtR,if_neg h]
     rcases ih with ⟨e1,e2⟩ | ⟨i,hi,e1,e2,e3⟩
     · rw [e1]; exact .inl ⟨rfl,e2⟩
     · rw [e1]; exact .inr ⟨i + 1,Nat.succ_lt_succ hi,rfl,e2,e3⟩
theorem fdI_neg {l : List Rdk} {n : List UInt8} (h : fdI l n < 0) : gtR l n = none:=by
 unfold fdI at h
 rcases fdR_cases l n with ⟨_,e2⟩ | ⟨i,hi,e1,_⟩
 · exact e2
 · rw [e1] at h; simp only at h; omega
theorem fdI_pos {l : List Rdk} {n : List UInt8} (h : ¬ fdI l n < 0) : ∃ (i : Nat) (hi : i < l.length),fdI l n = (i : Nat) ∧ gtR l n = some l[i] ∧ dN l[i] = n:=by
 unfold fdI at h ⊢
 rcases fdR_cases l n with ⟨e1,e2⟩ | ⟨i,hi,e1,e2,e3⟩
 · rw [e1] at h; simp only at h; omega
 · exact ⟨i,hi,(by rw [e1]),e2,e3⟩
theorem fdI_none {l : List Rdk} {n : List UInt8} (h : gtR l n = none) : fdI l n = -1:=by
 unfold fdI
 rcases fdR_cases l n with ⟨e1,e2⟩ | ⟨i,hi,e1,e2,e3⟩
 · rw [e1]
 · rw [h] at e2; cases e2
theorem fdI_some {l : List Rdk} {n : List UInt8} {d : Rdk} (h : gtR l n = some d) : ∃ (i : Nat) (hi : i < l.length),fdI l n = (i : Nat) ∧ l[i] = d ∧ dN d = n:=by
 unfold fdI
 rcases fdR_cases l n with ⟨e1,e2⟩ | ⟨i,hi,e1,e2,e3⟩
 · rw [h] at e2; cases e2
 · rw [h] at e2
   injection e2 with e2
   exact ⟨i,hi,(by rw [e1]),e2.symm,e2 ▸ e3⟩
@[reducible] def ndK14 (n : List UInt8) (k : Nat) : KL:=[(1,vS n),(2,vP 2),(5,vI (k : Nat))]
theorem cfind_fn (bits room : Int) (l : List Rdk) (n : List UInt8) (hl : l.length ≤ 1073741824) : Fn Tryz.prog 55 [rcV bits room l,vS n] [] [] (vI (fdI l n)) []:=by
 refine Fn.of tblOK [] _ _ _ _ _ Tryz.func55 rfl rfl (by kernel_rfl) (by kernel_rfl) rfl (drawOK tblOK) rfl ?_
 refine ⟨rfl,?_⟩
 show TrQ _ _ _ _ _ _ _
 refine TrQ.loop tblOK (drawOK tblOK) [] (by kernel_rfl) (X:=Nat) (ndK14 n) (fun _=>[(2,.cells (rcL bits room l))]) (fun k=>k ≤ l.length ∧ ∀ (i : Nat) x,i < k → l[i]? = some x → dN x ≠ n) (fun k=>l.length - k) 0 ⟨Nat.zero_le _,fun i x h=>absurd h (Nat.not_lt_zero _)⟩ ?_ ?_
 · exact Le.sub ⟨rfl,rfl,rfl,trivial⟩ ⟨rfl,trivial⟩
 rintro k ⟨hk,hp⟩
 refine ⟨fun h=>?_,fun h=>?_⟩
 · have hk1 : k < l.length:=by
     have h : decide ((k : Int) < (l.length : Int)) = true:=h
     simpa using h
   refine ⟨by omega,l[k],lgAt (n:=k) hk1,?_⟩
   refine ⟨fun h2=>?_,fun h2=>?_⟩
   · have h2 : dN l[k] = n:=of_decide_eq_true h2
     refine ⟨_,_,_,Le.refl _ _,rfl,(show ((k : Nat) : Int) = fdI l n from ?_),trivial,rfl⟩
     have : fdR l n = some k:=by
       rw [fdR,List.findIdx?_eq_some_iff_getElem]
       refine ⟨hk1,by simp [h2],fun j hj=>?_⟩
       have:=hp j _ hj (List.getElem?_eq_getElem (by omega))
       simpa using this
     rw [fdI,this]
   · have h2 : dN l[k] ≠ n:=of_decide_eq_false h2
     refine ⟨by omega,k + 1,⟨by omega,fun i x hi hx=>?_⟩,by omega,Le.sub ⟨rfl,rfl,rfl,trivial⟩ ⟨rfl,trivial⟩⟩
     rcases Nat.lt_or_ge i k with h4 | h4
     · exact hp i x h4 hx
     · have : i = k:=by omega
       subst this
       rw [List.getElem?_eq_getElem hk1] at hx
       injection hx with hx
       rw [← hx]; exact h2
 · have hk2 : k = l.length:=by
     have h : decide ((k : Int) < (l.length : Int)) = false:=h
     simp at h; omega
   refine ⟨_,_,_,Le.refl _ _,rfl,(show (-1 : Int) = fdI l n from ?_),trivial,rfl⟩
   have : fdR l n = none:=by
     rw [fdR,List.findIdx?_eq_none_iff]
     intro x hx
     obtain ⟨i,hi,rfl⟩:=List.getElem_of_mem hx
     have:=hp i _ (by omega) (List.getElem?_eq_getElem hi)
     simpa using this
   rw [fdI,this]
/-! ### Depth -/
/-- Does one stand on another one? The name of that. -/
def onR (l : List Rdk) (n : List UInt8) : Option (List UInt8):=match gtR l n with
 | some d=>if dB d = [] then none else some (dB d)
 | none=>none
def qdpF (l : List Rdk) : Nat → List UInt8 → Nat
 | 0,_=>0
 | f + 1,n=>match onR l n with
   | some b=>qdpF l f b + 1
   | none=>0
def dqR (l : List Rdk) (n : List UInt8) : Nat:=qdpF l 99 n
theorem qdpF_le (l : List Rdk) : ∀ f n,qdpF l f n ≤ f
 | 0,_=>Nat.le_refl _
 | f + 1,n=>by
   unfold qdpF
   split
   · exact Nat.succ_le_succ (qdpF_le l f _)
   · exact Nat.zero_le _
@[reducible] def dpK (l : List Rdk) (j : Nat) (n : List UInt8) : KL:=[(2,vP 2),(5,vI (j : Nat)),(6,vI (fdI l n))]
theorem cdepth_fn (bits room : Int) (l : List Rdk) (n : List UInt8) (hl : l.length ≤ 1073741824) : Fn Tryz.prog 67 [rcV bits room l,vS n] [] [] (vI (dqR l n : Nat)) []:=by
 refine Fn.of tblOK [] _ _ _ _ _ Tryz.func67 rfl rfl (by kernel_rfl) (by kernel_rfl) rfl (drawOK tblOK) rfl ?_
 refine ⟨rfl,?_⟩
 refine ⟨_,_,_,_,cfind_fn bits room l n hl,trivial,rfl,?_⟩
 show TrQ _ _ _ _ _ _ _
 refine TrQ.loop tblOK (drawOK tblOK) [] (by kernel_rfl) (X:=Nat × List UInt8) (fun x=>dpK l x.1 x.2) (fun _=>[(2,.cells (rcL bits room l))]) (fun x=>x.1 ≤ 99 ∧ x.1 + qdpF l (99 - x.1) x.2 = dqR l n) (fun x=>99 - x.1) (0,n) ⟨Nat.zero_le _,Nat.zero_add _⟩ ?_ ?_
 · exact Le.sub ⟨rfl,rfl,rfl,trivial⟩ ⟨rfl,trivial⟩
 rintro ⟨j,nm⟩ ⟨hj,he⟩
 have hj : j ≤ 99:=hj
 have he : j + qdpF l (99 - j) nm = dqR l n:=he
 have stop : (j = 99 ∨ onR l nm = none) → ((j : Nat) : Int) = ((dqR l n : Nat) : Int):=fun h=>by
   have : qdpF l (99 - j) nm = 0:=by
     rcases h with h | h
     · rw [h]; rfl
     · cases e : 99 - j with
       | zero=>rfl
       | succ f=>rw [qdpF,h]
   omega
 refine ⟨fun h1=>?_,fun h1=>?_⟩
 · have h1 : 0 ≤ fdI l nm:=of_decide_eq_true h1
   obtain ⟨i,hi,e1,e2,e3⟩:=fdI_pos (l:=l) (n:=nm) (by omega)
   refine ⟨by omega,l[i],(by rw [show (fdI l nm).toNat = i by omega]; exact lgAt (n:=i) hi),?_⟩
   refine ⟨fun h2=>?_,fun h2=>?_⟩
   · have h2 : (!decide (dB l[i] = [])) = true:=h2
     have h2 : ¬ dB l[i] = []:=by simpa using h2
     have ho : onR l nm = some (dB l[i]):=by unfold onR; rw [e2]; exact if_neg h2
     refine ⟨fun h3=>?_,fun h3=>?_⟩
     · have h3 : ((j : Nat) : Int) < 99:=of_decide_eq_true h3
       refine ⟨by omega,?_⟩
       refine ⟨by omega,l[i],(by rw [show (fdI l nm).toNat = i by omega]; exact lgAt (n:=i) hi),?_⟩
       refine ⟨_,_,_,_,cfind_fn bits room l (dB l[i]) hl,trivial,rfl,?_⟩
       have hf : 99 - j = (99 - (j + 1)) + 1:=by omega
       rw [hf,qdpF,ho] at he
       have he : j + (qdpF l (99 - (j + 1)) (dB l[i]) + 1) = dqR l n:=he
       refine ⟨rfl,?_⟩
       exact ⟨(j + 1,dB l[i]),⟨by show j + 1 ≤ 99; omega,by show j + 1 + qdpF l (99 - (j + 1)) (dB l[i]) = dqR l n; omega⟩,by show 99 - (j + 1) < 99 - j; omega,Le.sub ⟨rfl,rfl,rfl,trivial⟩ ⟨rfl,trivial⟩⟩
     · have h3 : ¬ ((j : Nat) : Int) < 99:=of_decide_eq_false h3
       exact ⟨_,_,_,Le.refl _ _,rfl,stop (.inl (by omega)),trivial,rfl⟩
   · have h2 : (!decide (dB l[i] = [])) = false:=h2
     have h2 : dB l[i] = []:=by simpa using h2
     have ho : onR l nm = none:=by unfold onR; rw [e2]; exact if_pos h2
     exact ⟨_,_,_,Le.refl _ _,rfl,stop (.inr ho),trivial,rfl⟩
 · have h1 : ¬ 0 ≤ fdI l nm:=of_decide_eq_false h1
   have e:=fdI_neg (l:=l) (n:=nm) (by omega)
   have ho : onR l nm = none:=by unfold onR; rw [e]
   exact ⟨_,_,_,Le.refl _ _,rfl,stop (.inr ho),trivial,rfl⟩
/-! ### Names,Users -/
def usR (l : List Rdk) (n : List UInt8) : List (List UInt8):=(l.filter fun d=>!decide (n = []) && decide (dB d = n)).map dN
theorem usR_succ {l : List Rdk} {k : Nat} (h : k < l.length) (n : List UInt8) : usR (l.take (k + 1)) n = usR (l.take k) n ++ (match !decide (n = []) && decide (dB l[k] = n) with | true=>[dN l[k]] | false=>[]):=by
 unfold usR
 rw [List.take_succ_eq_append_getElem h,List.filter_append,List.map_append]
 congr 1
 cases e : (!decide (n = []) && decide (dB l[k] = n)) with
 | true=>rw [List.filter_cons_of_pos (by exact e)]; rfl
 | false=>rw [List.filter_cons_of_neg (by rw [e]; decide)]; rfl
theorem usR_len (l : List Rdk) (n : List UInt8) : (usR l n).length ≤ l.length:=by
 unfold usR
 rw [List.length_map]
 exact List.length_filter_le _ _
@[reducible] def qusK (n : List UInt8) (d k : Nat) : KL:=[(1,vS n),(2,vP 2),(5,vOwn d),(6,vI (k : Nat))]
@[reducible] def qusB (bits room : Int) (l : List Rdk) (d : Nat) (x : List (List UInt8)) : BL:=[(2,.cells (rcL bits room l)),(d,.row 9 .str x)]
theorem cusers_fn (bits room : Int) (l : List Rdk) (n : List UInt8) (hl : l.length ≤ 1073741824) : Fn Tryz.prog 56 [rcV bits room l,vS n] [] [] (vL .str (usR l n)) []:=by
 refine Fn.of tblOK [7] _ _ _ _ _ Tryz.func56 rfl rfl (by kernel_rfl) (by kernel_rfl) rfl (drawOK tblOK) rfl ?_
 refine ⟨rfl,?_⟩
 show TrQ _ _ _ _ _ _ _
 refine TrQ.loop tblOK (drawOK tblOK) [7] (by kernel_rfl) (X:=Nat) (fun k=>qusK n 2003 k) (fun k=>qusB bits room l 2003 (usR (l.take k) n)) (fun k=>k ≤ l.length) (fun k=>l.length - k) 0 (Nat.zero_le _) ?_ ?_
 · exact Le.trans (Le.nil 5 2003 9 .str rfl rfl) (Le.sub ⟨rfl,rfl,rfl,rfl,trivial⟩ ⟨rfl,rfl,trivial⟩)
 intro k hk
 refine ⟨fun h=>?_,fun h=>?_⟩
 · have h : decide ((k : Int) < (l.length : Int)) = true:=h
   have hk1 : k < l.length:=by simpa using h
   have hcl : (usR (l.take k) n).length ≤ k:=Nat.le_trans (usR_len _ _) (by rw [List.length_take]; omega)
   have hsn:=usR_succ hk1 n
   refine ⟨fun c1=>?_,fun c1=>?_⟩
   · have c1 : (!decide (n = [])) = true:=c1
     refine ⟨by omega,l[k],lgAt (n:=k) hk1,?_⟩
     refine ⟨fun c2=>?_,fun c2=>?_⟩
     · have c2 : decide (dB l[k] = n) = true:=c2
       rw [c1,c2] at hsn
       refine ⟨by omega,l[k],lgAt (n:=k) hk1,?_⟩
       have hb : (usR (l.take k) n).length + 1 ≤ 4294967296:=by omega
       refine ⟨hb,rfl,?_⟩
       refine ⟨by omega,k + 1,by omega,by omega,Le.trans (Le.sub (K':=qusK n 34 (k + 1)) (B':=qusB bits room l 34 (usR (l.take (k + 1)) n)) ⟨rfl,rfl,rfl,rfl,trivial⟩ ⟨rfl,?_,trivial⟩) (Le.ren 34 2003 rfl)⟩
       rw [hsn]
       rfl
     · have c2 : decide (dB l[k] = n) = false:=c2
       rw [c2,Bool.and_false,List.append_nil] at hsn
       refine ⟨by omega,k + 1,by omega,by omega,Le.sub ⟨rfl,rfl,rfl,rfl,trivial⟩ ⟨rfl,?_,trivial⟩⟩
       rw [hsn]
       rfl
   · have c1 : (!decide (n = [])) = false:=c1
     rw [c1,Bool.false_and,List.append_nil] at hsn
     refine ⟨by omega,k + 1,by omega,by omega,Le.sub ⟨rfl,rfl,rfl,rfl,trivial⟩ ⟨rfl,?_,trivial⟩⟩
     rw [hsn]
     rfl
 · have h : decide ((k : Int) < (l.length : Int)) = false:=h
   have hk1 : k = l.length:=by simp at h; omega
   subst hk1
   show TrQ _ _ _ _ _ _ _
   refine TrQ.go tblOK (drawOK tblOK) [] (by kernel_rfl) (Le.trans (Le.sub (K':=qusK n 2003 l.length) (B':=qusB bits room l 2003 (usR l n)) ⟨rfl,rfl,rfl,rfl,trivial⟩ ⟨rfl,congrArg (fun m=>some (Ch.row 9 .str (usR m n))) List.take_length,trivial⟩) (Le.frz 2003 rfl)) ?_
   exact ⟨_,_,_,Le.refl _ _,rfl,rfl,trivial,rfl⟩
/-! ### With,put -/
theorem infDk : (Tryz.prog.info? 124).map (·.size) = some 7:=by kernel_rfl
theorem wfDk (d : Rdk) : WfU uDk d:=⟨trivial,trivial,trivial,trivial,trivial,trivial,trivial⟩
theorem cwith_fn (bits room : Int) (l : List Rdk) {k : Nat} (hl : l.length ≤ 1073741824) (hk : k < l.length) (d : Rdk) : Fn Tryz.prog 96 [rcV bits room l,vI (k : Int),dkV d] [] [] (rcV bits room (l.set k d)) []:=by
 refine Fn.of tblOK [3] _ _ _ _ _ Tryz.func96 rfl rfl (by kernel_rfl) (by kernel_rfl) rfl (drawOK tblOK) rfl ?_
 refine ⟨rfl,?_⟩
 refine ⟨rfl,?_⟩
 refine ⟨rfl,?_⟩
 have h1 : (0 : Nat) + l.length ≤ 4294967296:=by omega
 refine ⟨rfl,h1,rfl,?_⟩
 have h2 : 0 ≤ (k : Int) ∧ (k : Int) < ((l.length : Nat) : Int):=by omega
 refine ⟨h2,?_⟩
 obtain ⟨inf,hi1,hi2⟩:=inf_of infDk
 refine ⟨_,_,fun N=>opOK_rowPut (u:=uDk) (y:=d) rfl hi1 hi2 rfl rfl rfl (by show k < l.length; exact hk) (wfDk d) N,rfl,?_⟩
 show TrQ _ _ _ _ _ _ _
 refine TrQ.go tblOK (drawOK tblOK) [] (by kernel_rfl) (Le.frz 11 rfl) ?_
 exact ⟨_,_,_,Le.refl _ _,rfl,⟨rfl,rfl,rfl,trivial⟩,trivial,rfl⟩
/-- Disks by rising names,with one more: what is out behind k of them,and is it done? -/
def ptS (l : List Rdk) (d : Rdk) : Nat → List Rdk × Bool
 | 0=>([],false)
 | k + 1=>match l[k]? with
   | none=>ptS l d k
   | some x=>if (ptS l d k).2 = false ∧ dN d < dN x then ((ptS l d k).1 ++ [d] ++ [x],true) else ((ptS l d k).1 ++ [x],(ptS l d k).2)
def ptR (l : List Rdk) (d : Rdk) : List Rdk:=if (ptS l d l.length).2 = true then (ptS l d l.length).1 else (ptS l d l.length).1 ++ [d]
theorem ptS_len (l : List Rdk) (d : Rdk) : ∀ k,(ptS l d k).1.length + (match (ptS l d k).2 with | true=>0 | false=>1) ≤ k + 1
 | 0=>Nat.le_refl _
 | k + 1=>by
   have ih:=ptS_len l d k
   unfold ptS
   split
   · exact Nat.le_succ_of_le ih
   · split
     · rename_i h
       rw [h.1] at ih
       simp only [List.length_append,List.length_cons,List.length_nil] at ih ⊢
       omega
     · simp only [List.length_append,List.length_cons,List.length_nil]
       split <;> rename_i e <;> rw [e] at ih <;> simp only at ih <;> omega
@[reducible] def qptK (l : List Rdk) (o : Nat) (dn : Bool) (k : Nat) : KL:=[(0,vL uDk l),(3,vP 3),(5,vOwn o),(6,vB dn),(7,vI (k : Nat))]
@[reducible] def qptB (d : Rdk) (o : Nat) (x : List Rdk) : BL:=[(3,.cells (dkL d)),(o,.row 124 uDk x)]
set_option maxHeartbeats 1000000 in
theorem cput_fn (l : List Rdk) (d : Rdk) (hl : l.length ≤ 1073741824) : Fn Tryz.prog 95 [vL uDk l,dkV d] [] [] (vL uDk (ptR l d)) []:=by
 refine Fn.of tblOK [10,12] _ _ _ _ _ Tryz.func95 rfl rfl (by kernel_rfl) (by kernel_rfl) rfl (drawOK tblOK) rfl ?_
 refine ⟨rfl,?_⟩
 show TrQ _ _ _ _ _ _ _
 refine TrQ.loop tblOK (drawOK tblOK) [10,12] (by kernel_rfl) (X:=Nat) (fun k=>qptK l 2003 (ptS l d k).2 k) (fun k=>qptB d 2003 (ptS l d k).1) (fun k=>k ≤ l.length) (fun k=>l.length - k) 0 (Nat.zero_le _) ?_ ?_
 · exact Le.trans (Le.nil 5 2003 124 uDk rfl rfl) (Le.sub ⟨rfl,rfl,rfl,rfl,rfl,trivial⟩ ⟨rfl,rfl,trivial⟩)
 intro k hk
 have hln:=ptS_len l d k
 have hl2 : (ptS l d k).1.length ≤ k + 1:=by omega
 refine ⟨fun h=>?_,fun h=>?_⟩
 · have h : decide ((k : Int) < (l.length : Int)) = true:=h
   have hk1 : k < l.length:=by simpa using h
   have e : ptS l d (k + 1) = if (ptS l d k).2 = false ∧ dN d < dN l[k] then ((ptS l d k).1 ++ [d] ++ [l[k]],true) else ((ptS l d k).1 ++ [l[k]],(ptS l d k).2):=by
     rw [ptS,List.getElem?_eq_getElem hk1]
   have hget:=lgAt (n:=k) hk1
   generalize hx : l[k] = x at *
   refine ⟨fun c1=>?_,fun c1=>?_⟩
   · have c1 : (!(ptS l d k).2) = true:=c1
     have c1 : (ptS l d k).2 = false:=by simpa using c1
     refine ⟨by omega,x,hget,?_⟩
     refine ⟨rfl,fun c2=>?_,fun c2=>?_⟩
     · have c2 : Op.bytesLess (dN d) (dN x) = true:=c2
       rw [Go.Proofs.bytesLess_eq] at c2
       have c2:=of_decide_eq_true c2
       rw [if_pos ⟨c1,c2⟩] at e
       have b1 : (ptS l d k).1.length + 1 ≤ 4294967296:=by omega
       refine ⟨b1,rfl,?_⟩
       refine ⟨by omega,x,hget,?_⟩
       have b2 : ((ptS l d k).1 ++ [d]).length + 1 ≤ 4294967296:=by rw [List.length_append]; simp only [List.length_cons,List.length_nil]; omega
       refine ⟨b2,rfl,?_⟩
       refine ⟨by omega,k + 1,by omega,by omega,Le.trans (Le.sub (K':=qptK l 36 (ptS l d (k + 1)).2 (k + 1)) (B':=qptB d 36 (ptS l d (k + 1)).1) ⟨rfl,rfl,rfl,?_,rfl,trivial⟩ ⟨rfl,?_,trivial⟩) (Le.ren 36 2003 rfl)⟩
       · rw [e]; rfl
       · rw [e]; rfl
     · have c2 : Op.bytesLess (dN d) (dN x) = false:=c2
       rw [Go.Proofs.bytesLess_eq] at c2
       have c2:=of_decide_eq_false c2
       rw [if_neg (fun q=>c2 q.2)] at e
       refine ⟨by omega,x,hget,?_⟩
       have b1 : (ptS l d k).1.length + 1 ≤ 4294967296:=by omega
       refine ⟨b1,rfl,?_⟩
       refine ⟨by omega,k + 1,by omega,by omega,Le.trans (Le.sub (K':=qptK l 36 (ptS l d (k + 1)).2 (k + 1)) (B':=qptB d 36 (ptS l d (k + 1)).1) ⟨rfl,rfl,rfl,?_,rfl,trivial⟩ ⟨rfl,?_,trivial⟩) (Le.ren 36 2003 rfl)⟩
       · rw [e]; rfl
       · rw [e]; rfl
   · have c1 : (!(ptS l d k).2) = false:=c1
     have c1 : (ptS l d k).2 = true:=by simpa using c1
     rw [if_neg (fun q=>absurd (c1.symm.trans q.1) (by decide))] at e
     refine ⟨rfl,?_⟩
     refine ⟨by omega,x,hget,?_⟩
     have b1 : (ptS l d k).1.length + 1 ≤ 4294967296:=by omega
     refine ⟨b1,rfl,?_⟩
     refine ⟨by omega,k + 1,by omega,by omega,Le.trans (Le.sub (K':=qptK l 36 (ptS l d (k + 1)).2 (k + 1)) (B':=qptB d 36 (ptS l d (k + 1)).1) ⟨rfl,rfl,rfl,?_,rfl,trivial⟩ ⟨rfl,?_,trivial⟩) (Le.ren 36 2003 rfl)⟩
     · rw [e]; rfl
     · rw [e]; rfl
 · have h : decide ((k : Int) < (l.length : Int)) = false:=h
   have hk1 : k = l.length:=by simp at h; omega
   subst hk1
   unfold ptR
   show TrQ _ _ _ _ _ _ _
   refine TrQ.go tblOK (drawOK tblOK) [12] (by kernel_rfl) (Le.refl _ _) ?_
   refine ⟨fun c1=>?_,fun c1=>?_⟩
   · have c1 : (!(ptS l d l.length).2) = true:=c1
     have c1 : (ptS l d l.length).2 = false:=by simpa using c1
     rw [if_neg (fun q=>absurd (c1.symm.trans q) (by decide))]
     have b1 : (ptS l d l.length).1.length + 1 ≤ 4294967296:=by omega
     refine ⟨b1,rfl,?_⟩
     show TrQ _ _ _ _ _ _ _
     refine TrQ.go tblOK (drawOK tblOK) [] (by kernel_rfl) (Le.frz 42 rfl) ?_
     exact ⟨_,_,_,Le.refl _ _,rfl,rfl,trivial,rfl⟩
   · have c1 : (!(ptS l d l.length).2) = false:=c1
     have c1 : (ptS l d l.length).2 = true:=by simpa using c1
     rw [if_pos c1]
     show TrQ _ _ _ _ _ _ _
     refine TrQ.go tblOK (drawOK tblOK) [] (by kernel_rfl) (Le.frz 2003 rfl) ?_
     exact ⟨_,_,_,Le.refl _ _,rfl,rfl,trivial,rfl⟩
end Go.Proofs.YteoamepgonpdlaaGreat
/-!
  Chains: Cluster, whatever is asked; how far one is away.
-/
namespace Go.Proofs.YteoamepgonpdlaaGreat
set_option linter.unusedVariables false
set_option linter.unusedSimpArgs false
set_option maxRecDepth 10000
open Go.RowKit Go.Proofs
/-! Chains: Cluster and Row,whatever is asked; an image's Size,Bits,Kind in the chain. -/
section
variable {bits room : Nat} {L : List Dsk}
def clC (bits : Nat) (L : List Dsk) (nm : List UInt8) (k : Int) : List UInt8:=match dk L nm with
 | none=>[]
 | some d=>if 0 ≤ k ∧ k < (d.im.t.length : Nat) then cseen bits L nm (dpt L nm) k.toNat else []
theorem chcluster_fn (h : CS bits room L) (nm : List UInt8) (k : Int) : Fn Tryz.prog 16 [vP 1001,vS nm,vI k] (chB bits room L) [] (vL .u8 (clC bits L nm k)) (chB bits room L):=by
 unfold clC
 cases h0 : dk L nm with
 | none =>
   have hx : (mget (ku:=.str) (vu:=.adr) (chE L) nm).getD (dflt .adr) = none:=by rw [cget,h0]; rfl
   simp only
   refine Fn.of tblOK [2,4] _ _ _ _ _ Tryz.func16 rfl rfl (by kernel_rfl) (by kernel_rfl) rfl (drawOK tblOK) rfl ?_
   show TrQ _ _ _ _ _ _ _
   refine TrQ.go tblOK (drawOK tblOK) [4] (by kernel_rfl) (Le.refl _ _) ?_
   refine ⟨fun b' hb=>absurd (show (mget (ku:=.str) (vu:=.adr) (chE L) nm).getD (dflt .adr) = some b' from hb) (by rw [hx]; intro h; cases h),fun _=>?_⟩
   exact ⟨_,_,_,Le.refl _ _,rfl,rfl,⟨rfl,rfl,rfl,rfl,trivial⟩,rfl⟩
 | some d0 =>
   simp only
   split
   · rename_i hk
     have hd:=h.dep nm
     have:=cluster_in bits room L h.toChOK nm d0 h0 (dpt L nm) hd.1 (by omega) k.toNat (by omega)
     rwa [show ((k.toNat : Nat) : Int) = k by omega] at this
   · rename_i hk
     obtain ⟨ia,ia1,ia2⟩:=inf_of infAdr
     have hLd:=h.toChN.D (dk_get h0).1
     have hLm:=h.toChN.M (dk_get h0).1
     have hx : (mget (ku:=.str) (vu:=.adr) (chE L) nm).getD (dflt .adr) = some d0.ad:=by rw [cget,h0]; rfl
     refine Fn.of tblOK [2,4] _ _ _ _ _ Tryz.func16 rfl rfl (by kernel_rfl) (by kernel_rfl) rfl (drawOK tblOK) rfl ?_
     show TrQ _ _ _ _ _ _ _
     refine TrQ.go tblOK (drawOK tblOK) [4] (by kernel_rfl) (Le.refl _ _) ?_
     refine ⟨fun b' hb=>?_,fun hb=>absurd (show (mget (ku:=.str) (vu:=.adr) (chE L) nm).getD (dflt .adr) = none from hb) (by rw [hx]; intro h; cases h)⟩
     refine ⟨fun _=>?_,fun h1=>?_⟩
     · exact ⟨_,_,_,Le.refl _ _,rfl,rfl,⟨rfl,rfl,rfl,rfl,trivial⟩,rfl⟩
     have h1 : ¬ k < 0:=of_decide_eq_false h1
     refine ⟨_,_,fun N=>opOK_nilAdr (b:=d0.ad) rfl (by exact adrV_eq hx) N,rfl,?_⟩
     refine ⟨_,_,fun N=>opOK_fieldAdr rfl Tryz.underlying130 rfl rfl ia1 (by rw [ia2]; decide) rfl N,rfl,?_⟩
     refine ⟨_,_,fun N=>opOK_loadRaw (q:=1003) rfl Tryz.underlying49 rfl rfl rfl hLd rfl N,rfl,?_⟩
     refine ⟨_,_,_,_,imFn (isize_fn d0.im) hLm rfl rfl rfl rfl,⟨rfl,trivial⟩,rfl,?_⟩
     refine ⟨fun _=>?_,fun h2=>?_⟩
     · exact ⟨_,_,_,Le.refl _ _,rfl,rfl,⟨rfl,rfl,rfl,rfl,trivial⟩,rfl⟩
     · exfalso
       have h2 : ¬ ((d0.im.t.length : Nat) : Int) ≤ k:=of_decide_eq_false h2
       omega
/-- How many images one is away that is seen; 0: there is none. -/
def awy (bits : Nat) (L : List Dsk) (nm : List UInt8) (c : Nat) : Nat:=(seenL bits L c (nm :: bl L (dpt L nm) nm) 0).2
def awyL (bits : Nat) (L : List Dsk) (nm : List UInt8) (n : Nat) : List Int:=(List.range n).map fun c=>((awy bits L nm c : Nat) : Int)
theorem awyL_succ (bits : Nat) (L : List Dsk) (nm : List UInt8) (j : Nat) : awyL bits L nm (j + 1) = awyL bits L nm j ++ [((awy bits L nm j : Nat) : Int)]:=by
 unfold awyL
 rw [List.range_succ,List.map_append]
 rfl
theorem awyL_len (bits : Nat) (L : List Dsk) (nm : List UInt8) (j : Nat) : (awyL bits L nm j).length = j:=by
 unfold awyL
 rw [List.length_map,List.length_range]
end
end Go.Proofs.YteoamepgonpdlaaGreat
