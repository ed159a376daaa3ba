/-
Part 10 of the proof that stands in YteoamepgonpdlaaGreatPbRow, with what it needs from the parts ahead; the parts of this text: In, Vi, Ca, Vj, Vk.
-/
import Derived.Test.YteoamepgonpdlaaGreatPb9
/-!
  Images: Zero.
-/
namespace Go.Proofs.YteoamepgonpdlaaGreat
set_option linter.unusedVariables false
set_option linter.unusedSimpArgs false
set_option maxRecDepth 10000
open Go.RowKit Go.Proofs
def isWhole (s : ImS) (p : Pce) : Bool:=decide (p.b - p.a = wid s)
theorem zwhole_fn (s : ImS) (hb : s.bits ≤ 3) (p : Pce) (h1 : p.a ≤ p.b) (h2 : p.b ≤ 1000) : Fn Tryz.prog 125 [vPc p,vP 4] (imB s ++ [(4,.cells [.ptr 1001 0])]) [] (vB (isWhole s p)) (imB s ++ [(4,.cells [.ptr 1001 0])]):=by
 have m4 : (-9223372036854775808 : Int) ≤ (p.b : Int) - (p.a : Int) ∧ (p.b : Int) - (p.a : Int) ≤ 9223372036854775807:=by omega
 refine Fn.of tblOK [] _ _ _ _ _ Tryz.func125 rfl rfl (by kernel_rfl) (by kernel_rfl) rfl (drawOK tblOK) rfl ?_
 refine ⟨rfl,?_⟩
 refine ⟨m4,?_⟩
 refine ⟨_,_,_,_,ibytes_fn s hb,⟨rfl,rfl,rfl,rfl,trivial⟩,rfl,?_⟩
 refine ⟨rfl,?_⟩
 refine ⟨_,_,_,Le.refl _ _,rfl,?_,⟨rfl,rfl,rfl,rfl,rfl,trivial⟩,rfl⟩
 show decide ((p.b : Int) - (p.a : Int) = ((wid s : Nat) : Int)) = isWhole s p
 unfold isWhole
 exact decide_eq_decide.2 (by omega)
def zNeeds (s : ImS) (p : Pce) : Bool:=!isWhole s p && (decide ((s.t.getD p.c s0).1 ≠ 2) && iNeeds s p.c)
def zdK (s : ImS) (a l : Nat) : Nat → Nat
 | 0=>0
 | k + 1=>zdK s a l k + (if zNeeds s (pce (wid s) a l k) = true then 1 else 0)
theorem zdK_le (s : ImS) (a l k : Nat) : zdK s a l k ≤ k:=by
 induction k with
 | zero=>exact Nat.le_refl _
 | succ k ih =>
   show zdK s a l k + _ ≤ k + 1
   split <;> omega
@[reducible] def sZr : Slt:=((2 : Int),(0 : Int),false)
@[reducible] def zerB (n : Nat) : List UInt8:=List.replicate n (0 : UInt8)
def zpS (s : ImS) (p : Pce) (y : List UInt8) : ImS:=if isWhole s p = true then iset s p.c sZr else if (s.t.getD p.c s0).1 = 2 then s else iput s p (zerB (p.b - p.a)) y
def izrK (s : ImS) (a l : Nat) (y : Nat → List UInt8) : Nat → ImS
 | 0=>s
 | k + 1=>zpS (izrK s a l y k) (pce (wid s) a l k) (y (pce (wid s) a l k).c)
@[reducible] def izX0 (s : ImS) (R : Pl → Ob) (b1 b2 : Nat) : BL:=imR s R ++ [(4,.cells [.ptr 1001 0]),(7,.cells [.d (.fn (114,[b1,b2]))]),(10,.cells [.clo 125 [.p 4 0]])]
@[reducible] def izX (s : ImS) (R : Pl → Ob) (b1 b2 : Nat) (n : Nat) : BL:=imR s R ++ [(4,.cells [.ptr 1001 0]),(7,.cells [.d (.fn (114,[b1,b2]))]),(10,.cells [.clo 125 [.p 4 0]]),(11,.cells [.d (.int .i64 (n : Int))])]
@[reducible] def izKI2 (a l : Nat) : KL:=[(1,vI (a : Int)),(2,vI (l : Int)),(4,vP 4),(7,vP 7),(10,vP 10)]
@[reducible] def zRo : KL:=[(1000000 + 76,.undef),(1000000 + 117,.undef)]
@[reducible] def izKI (a l : Nat) : KL:=zRo ++ [(1,vI (a : Int)),(2,vI (l : Int)),(4,vP 4),(7,vP 7),(10,vP 10),(11,vP 11)]
theorem ikindD_fn (s : ImS) (hl : s.t.length ≤ 256) (c : Nat) (hc : c < s.t.length) : Fn Tryz.prog 76 [vP 1001,vI (c : Int)] (imB s) [] (vI (s.t.getD c s0).1) (imB s):=by
 have h:=ikind_fn s hl c hc
 have e : s.t[c] = s.t.getD c s0:=by rw [List.getD_eq_getElem?_getD,List.getElem?_eq_getElem hc]; rfl
 rwa [e] at h
set_option maxHeartbeats 1000000 in
theorem izero_in (s : ImS) (R : Pl → Ob) (b1 b2 : Nat) (hO : ImOK s) (a l : Nat) (h0 : iIns s a l = 0) (y : Nat → List UInt8) (r : Int) (s' : ImS) (hno : zeros s.l < zdK s a l (pcN (wid s) a l) → r = 120 ∧ s' = s) (hyes : zdK s a l (pcN (wid s) a l) ≤ zeros s.l → r = 0 ∧ s' = izrK s a l y (pcN (wid s) a l))
   (hOK : zdK s a l (pcN (wid s) a l) ≤ zeros s.l → ∀ k,k ≤ pcN (wid s) a l → ImOK (izrK s a l y k) ∧ (izrK s a l y k).bits = s.bits ∧ (izrK s a l y k).t.length = s.t.length)
   (hset : zdK s a l (pcN (wid s) a l) ≤ zeros s.l → ∀ k,k < pcN (wid s) a l → isWhole s (pce (wid s) a l k) = true → Fn Tryz.prog 127 [vP 1001,vI ((pce (wid s) a l k).c : Int),.c (vSl sZr)] (imB (izrK s a l y k)) [] vU (imB (izrK s a l y (k + 1))))
   (hput : zdK s a l (pcN (wid s) a l) ≤ zeros s.l → ∀ k,k < pcN (wid s) a l → isWhole s (pce (wid s) a l k) = false → ((izrK s a l y k).t.getD (pce (wid s) a l k).c s0).1 ≠ 2 → Fn Tryz.prog 119 [vP 1001,vPc (pce (wid s) a l k),vL .u8 (zerB ((pce (wid s) a l k).b - (pce (wid s) a l k).a)),vFn b1 b2] (imR (izrK s a l y k) R) [] vU (imR (izrK s a l y (k + 1)) R)) :
   Fn Tryz.prog 100 [vP 1001,vI (a : Int),vI (l : Int),vFn b1 b2] (imR s R) [] (vI r) (imR s' R):=by
 have hW:=wid_isW hO.bits
 have hw:=wid_le hO.bits
 have hall:=iIns_all h0
 have hal : iall s ≤ 2048:=Nat.mul_le_mul hO.tl (pow_le8 hO.bits).2
 refine Fn.of tblOK [4,5,6,10,12,18] _ _ _ _ _ Tryz.func100 rfl rfl (by kernel_rfl) (by kernel_rfl) rfl (drawOK tblOK) rfl ?_
 refine ⟨rfl,rfl,?_⟩
 refine ⟨_,_,_,_,iinside_fn s hO a l,⟨rfl,rfl,rfl,rfl,trivial⟩,rfl,?_⟩
 rw [h0]
 refine ⟨fun h=>absurd h (by decide),fun _=>?_⟩
 show TrQ _ _ _ _ _ _ _
 refine TrQ.go tblOK (drawOK tblOK) [5,6] (by kernel_rfl) (Le.refl _ _) ?_
 refine ⟨rfl,?_⟩
 show TrQ _ _ _ _ _ _ _
 refine TrQ.go tblOK (drawOK tblOK) [6] (by kernel_rfl) (Le.sub (K':=izKI2 a l) (B':=izX0 s R b1 b2) ⟨rfl,rfl,rfl,rfl,rfl,trivial⟩ ⟨rfl,rfl,rfl,rfl,rfl,rfl,rfl,rfl,trivial⟩) ?_
 refine ⟨rfl,?_⟩
 show TrQ _ _ _ _ _ _ _
 refine TrQ.ro 117 (by decide) (TrQ.ro 76 (by decide) ?_)
 refine TrQ.go tblOK (drawOK tblOK) [] (by kernel_rfl) (Le.sub (K':=izKI a l) (B':=izX s R b1 b2 0) ⟨trivial,trivial,rfl,rfl,rfl,rfl,rfl,rfl,trivial⟩ ⟨rfl,rfl,rfl,rfl,rfl,rfl,rfl,rfl,rfl,trivial⟩) ?_
 refine ⟨_,_,_,_,ipieces_fn s a l,⟨rfl,rfl,rfl,rfl,trivial⟩,rfl,?_⟩
 show TrQ _ _ _ _ _ _ _
 refine TrQ.le (Le.sub (K':=(25,.c (.one (.clo 133 [.p 2001 0,.p 2002 0,.p 2003 0]))) :: izKI a l) (B':=pbB a l ++ izX s R b1 b2 0) ⟨rfl,trivial,trivial,rfl,rfl,rfl,rfl,rfl,rfl,trivial⟩ ⟨rfl,rfl,rfl,rfl,rfl,rfl,rfl,rfl,rfl,rfl,rfl,rfl,trivial⟩) ?_
 refine TrQ.range tblOK [9] (pl:=[26]) rfl (by kernel_rfl) (by kernel_rfl) (by kernel_rfl) (by kernel_rfl) [1001,1002,1003,1004,9000,4,7,10,11] _ (izKI a l) (pbB a l) (fun k : Nat=>izX s R b1 b2 (zdK s a l k)) 1001 0 (pcN (wid s) a l) (fun k vs k'=>k < pcN (wid s) a l ∧ vs = [vPc (pce (wid s) a l k)] ∧ k' = k + 1) rfl (by exact ⟨trivial,trivial,rfl,rfl,rfl,rfl,rfl,rfl,trivial⟩) rfl rfl ?_ ?_ ?_
 · rintro k vs k' ⟨hk,rfl,rfl⟩
   obtain ⟨hc,hkN⟩:=pce_c hO hall hk
   obtain ⟨p1,p2,p3,p4⟩:=pce_ok hW hk
   have hnl:=zdK_le s a l k
   have e0 : zNeeds s (pce (wid s) a l k) = false → zdK s a l (k + 1) = zdK s a l k:=fun hn=>by
     show zdK s a l k + _ = _
     rw [if_neg (by rw [hn]; decide)]
     exact Nat.add_zero _
   have e1 : zNeeds s (pce (wid s) a l k) = true → ((zdK s a l k : Nat) : Int) + 1 = ((zdK s a l (k + 1) : Nat) : Int):=fun hn=>by
     show _ = ((zdK s a l k + _ : Nat) : Int)
     rw [if_pos hn]
     omega
   have m4 : (-9223372036854775808 : Int) ≤ ((zdK s a l k : Nat) : Int) + 1 ∧ ((zdK s a l k : Nat) : Int) + 1 ≤ 9223372036854775807:=by omega
   have hwh:=zwhole_fn s hO.bits (pce (wid s) a l k) p1 (by omega)
   refine ⟨rfl,rfl,?_⟩
   refine ⟨rfl,?_⟩
   refine ⟨rfl,?_⟩
   refine ⟨_,_,_,_,hwh,⟨rfl,rfl,rfl,rfl,rfl,trivial⟩,rfl,?_⟩
   refine ⟨fun hn=>?_,fun hn=>?_⟩
   · have hn : isWhole s (pce (wid s) a l k) = false:=by simpa using hn
     refine ⟨_,_,fun N=>opOK_callR rfl rfl rfl (ikindD_fn s hO.tl _ hc) (by exact ⟨rfl,rfl,rfl,rfl,trivial⟩) rfl (fun _=>rfl) N,rfl,?_⟩
     refine ⟨fun hn2=>?_,fun hn2=>?_⟩
     · have hn2 : ¬ (s.t.getD (pce (wid s) a l k).c s0).1 = 2:=by
         have hn2 : (!decide ((s.t.getD (pce (wid s) a l k).c s0).1 = 2)) = true:=hn2
         simpa using hn2
       refine ⟨_,_,fun N=>opOK_callR rfl rfl rfl (ineeds_fn s hO.tl _ hc) (by exact ⟨rfl,rfl,rfl,rfl,trivial⟩) rfl (fun _=>rfl) N,rfl,?_⟩
       refine ⟨fun hn3=>?_,fun hn3=>?_⟩
       · have hz : zNeeds s (pce (wid s) a l k) = true:=by
           unfold zNeeds
           rw [hn,decide_eq_true hn2,hn3]
           rfl
         show TrQ _ _ _ _ _ _ _
         refine TrQ.go tblOK (drawOK tblOK) [] (by kernel_rfl) (Le.sub (K':=[(11,vP 11)]) (B':=izX s R b1 b2 (zdK s a l k)) ⟨rfl,trivial⟩ ⟨rfl,rfl,rfl,rfl,rfl,rfl,rfl,rfl,rfl,trivial⟩) ?_
         refine ⟨m4,?_⟩
         exact ⟨rfl,Le.sub trivial ⟨rfl,rfl,rfl,rfl,rfl,rfl,rfl,rfl,by rw [← e1 hz]; rfl,trivial⟩⟩
       · have hz : zNeeds s (pce (wid s) a l k) = false:=by
           unfold zNeeds
           rw [hn3,Bool.and_false,Bool.and_false]
         exact ⟨rfl,Le.sub trivial ⟨rfl,rfl,rfl,rfl,rfl,rfl,rfl,rfl,by rw [e0 hz]; rfl,trivial⟩⟩
     · have hn2 : (s.t.getD (pce (wid s) a l k).c s0).1 = 2:=by
         have hn2 : (!decide ((s.t.getD (pce (wid s) a l k).c s0).1 = 2)) = false:=hn2
         simpa using hn2
       have hz : zNeeds s (pce (wid s) a l k) = false:=by
         unfold zNeeds
         rw [decide_eq_false (fun h=>h hn2),Bool.false_and,Bool.and_false]
       exact ⟨rfl,Le.sub trivial ⟨rfl,rfl,rfl,rfl,rfl,rfl,rfl,rfl,by rw [e0 hz]; rfl,trivial⟩⟩
   · have hn : isWhole s (pce (wid s) a l k) = true:=by simpa using hn
     have hz : zNeeds s (pce (wid s) a l k) = false:=by
       unfold zNeeds
       rw [hn]
       rfl
     exact ⟨rfl,Le.sub trivial ⟨rfl,rfl,rfl,rfl,rfl,rfl,rfl,rfl,by rw [e0 hz]; rfl,trivial⟩⟩
 · intro yl J hlift hy
   exact pieces_it yl (wid s) a l hW (by omega) (by omega) J (fun k=>hlift _ _ _ k k (Fn.more [(9000,.dep 1001 R),(4,.cells [.ptr 1001 0]),(7,.cells [.d (.fn (114,[b1,b2]))]),(10,.cells [.clo 125 [.p 4 0]]),(11,.cells [.d (.int .i64 (zdK s a l k : Int))])] (ibytes_fn s hO.bits) rfl rfl) rfl rfl) (fun k hk=>hy k _ (k + 1) ⟨hk,rfl,rfl⟩)
 · have hz : zeros s.l ≤ 512:=Nat.le_trans (zeros_le _) hO.ll
   show TrQ _ _ _ _ _ _ _
   refine TrQ.go tblOK (drawOK tblOK) [12,18] (by kernel_rfl) (Le.refl _ _) ?_
   refine ⟨_,_,_,_,ifree_fn s (by have:=hO.ll; omega),⟨rfl,rfl,rfl,rfl,trivial⟩,rfl,?_⟩
   refine ⟨rfl,?_⟩
   refine ⟨fun h=>?_,fun h=>?_⟩
   · have h : ((zeros s.l : Nat) : Int) < ((zdK s a l (pcN (wid s) a l) : Nat) : Int):=of_decide_eq_true h
     obtain ⟨rfl,rfl⟩:=hno (by omega)
     exact ⟨_,_,_,Le.refl _ _,rfl,rfl,⟨rfl,rfl,rfl,rfl,rfl,trivial⟩,rfl⟩
   have h : ¬ ((zeros s.l : Nat) : Int) < ((zdK s a l (pcN (wid s) a l) : Nat) : Int):=of_decide_eq_false h
   have hnd : zdK s a l (pcN (wid s) a l) ≤ zeros s.l:=by omega
   obtain ⟨rfl,rfl⟩:=hyes hnd
   have hOK:=hOK hnd
   have hset:=hset hnd
   have hput:=hput hnd
   show TrQ _ _ _ _ _ _ _
   refine TrQ.go tblOK (drawOK tblOK) [18] (by kernel_rfl) (Le.sub (K':=izKI2 a l) (B':=izX0 s R b1 b2) ⟨rfl,rfl,rfl,rfl,rfl,trivial⟩ ⟨rfl,rfl,rfl,rfl,rfl,rfl,rfl,rfl,trivial⟩) ?_
   refine ⟨_,_,_,_,ipieces_fn s a l,⟨rfl,rfl,rfl,rfl,trivial⟩,rfl,?_⟩
   show TrQ _ _ _ _ _ _ _
   refine TrQ.le (Le.sub (K':=(52,.c (.one (.clo 133 [.p 2001 0,.p 2002 0,.p 2003 0]))) :: izKI2 a l) (B':=pbB a l ++ izX0 s R b1 b2) ⟨rfl,rfl,rfl,rfl,rfl,rfl,trivial⟩ ⟨rfl,rfl,rfl,rfl,rfl,rfl,rfl,rfl,rfl,rfl,rfl,trivial⟩) ?_
   refine TrQ.range tblOK [15,16,17] (pl:=[53]) rfl (by kernel_rfl) (by kernel_rfl) (by kernel_rfl) (by kernel_rfl) [1001,1002,1003,1004,9000,4,7,10] _ (izKI2 a l) (pbB a l) (fun k : Nat=>izX0 (izrK s a l y k) R b1 b2) 1001 0 (pcN (wid s) a l) (fun k vs k'=>k < pcN (wid s) a l ∧ vs = [vPc (pce (wid s) a l k)] ∧ k' = k + 1) rfl (by exact ⟨rfl,rfl,rfl,rfl,rfl,trivial⟩) rfl rfl ?_ ?_ ?_
   · rintro k vs k' ⟨hk,rfl,rfl⟩
     obtain ⟨hc,hkN⟩:=pce_c hO hall hk
     obtain ⟨p1,p2,p3,p4⟩:=pce_ok hW hk
     obtain ⟨o1,o2,o3⟩:=hOK k (Nat.le_of_lt hk)
     have hset:=hset k hk
     have hput:=hput k hk
     have ew : wid (izrK s a l y k) = wid s:=congrArg (fun b=>16 * 2 ^ b) o2
     have hwh:=zwhole_fn (izrK s a l y k) o1.bits (pce (wid s) a l k) p1 (by omega)
     rw [show isWhole (izrK s a l y k) (pce (wid s) a l k) = isWhole s (pce (wid s) a l k) by unfold isWhole; rw [ew]] at hwh
     have ew' : isWhole s (pce (wid s) a l k) = false → isWhole (izrK s a l y k) (pce (wid s) a l k) = false:=fun h=>by
       unfold isWhole
       rw [ew]
       exact h
     have estep : izrK s a l y (k + 1) = zpS (izrK s a l y k) (pce (wid s) a l k) (y (pce (wid s) a l k).c):=rfl
     refine ⟨rfl,rfl,?_⟩
     refine ⟨rfl,?_⟩
     refine ⟨rfl,?_⟩
     refine ⟨_,_,_,_,hwh,⟨rfl,rfl,rfl,rfl,rfl,trivial⟩,rfl,?_⟩
     refine ⟨fun hn=>?_,fun hn=>?_⟩
     · have hset:=hset hn
       show TrQ _ _ _ _ _ _ _
       refine TrQ.go tblOK (drawOK tblOK) [] (by kernel_rfl) (Le.sub (K':=[(4,vP 4),(13,vP 13)]) (B':=(13,.cells (pcL (pce (wid s) a l k))) :: izX0 (izrK s a l y k) R b1 b2) ⟨rfl,rfl,trivial⟩ ⟨rfl,rfl,rfl,rfl,rfl,rfl,rfl,rfl,rfl,trivial⟩) ?_
       refine ⟨_,_,_,_,Fn.arg hset ⟨rfl,rfl,⟨rfl,rfl,rfl,trivial⟩,trivial⟩,⟨rfl,rfl,rfl,rfl,trivial⟩,rfl,?_⟩
       exact ⟨rfl,Le.sub trivial ⟨rfl,rfl,rfl,rfl,rfl,rfl,rfl,rfl,trivial⟩⟩
     · show TrQ _ _ _ _ _ _ _
       refine TrQ.go tblOK (drawOK tblOK) [17] (by kernel_rfl) (Le.sub (K':=[(4,vP 4),(7,vP 7),(13,vP 13)]) (B':=(13,.cells (pcL (pce (wid s) a l k))) :: izX0 (izrK s a l y k) R b1 b2) ⟨rfl,rfl,rfl,trivial⟩ ⟨rfl,rfl,rfl,rfl,rfl,rfl,rfl,rfl,rfl,trivial⟩) ?_
       refine ⟨_,_,_,_,ikindD_fn (izrK s a l y k) o1.tl _ (by rw [o3]; exact hc),⟨rfl,rfl,rfl,rfl,trivial⟩,rfl,?_⟩
       refine ⟨fun hn2=>?_,fun hn2=>?_⟩
       · have hn2 : ¬ ((izrK s a l y k).t.getD (pce (wid s) a l k).c s0).1 = 2:=by
           have hn2 : (!decide (((izrK s a l y k).t.getD (pce (wid s) a l k).c s0).1 = 2)) = true:=hn2
           simpa using hn2
         have hput:=hput hn hn2
         have m4 : (-9223372036854775808 : Int) ≤ ((pce (wid s) a l k).b : Int) - ((pce (wid s) a l k).a : Int) ∧ ((pce (wid s) a l k).b : Int) - ((pce (wid s) a l k).a : Int) ≤ 9223372036854775807:=by omega
         have m5 : ((pce (wid s) a l k).b : Int) - ((pce (wid s) a l k).a : Int) = ((pce (wid s) a l k).b : Int) - ((pce (wid s) a l k).a : Int) ∧ (0 : Int) ≤ ((pce (wid s) a l k).b : Int) - ((pce (wid s) a l k).a : Int) ∧ ((pce (wid s) a l k).b : Int) - ((pce (wid s) a l k).a : Int) ≤ 4294967296:=by omega
         show TrQ _ _ _ _ _ _ _
         refine TrQ.go tblOK (drawOK tblOK) [] (by kernel_rfl) (Le.sub (K':=[(4,vP 4),(7,vP 7),(13,vP 13)]) (B':=(13,.cells (pcL (pce (wid s) a l k))) :: izX0 (izrK s a l y k) R b1 b2) ⟨rfl,rfl,rfl,trivial⟩ ⟨rfl,rfl,rfl,rfl,rfl,rfl,rfl,rfl,rfl,trivial⟩) ?_
         refine ⟨m4,m5,rfl,?_⟩
         have hx : zerB ((pce (wid s) a l k).b - (pce (wid s) a l k).a) = List.replicate (((pce (wid s) a l k).b : Int) - ((pce (wid s) a l k).a : Int)).toNat (0 : UInt8):=by
           rw [show (((pce (wid s) a l k).b : Int) - ((pce (wid s) a l k).a : Int)).toNat = (pce (wid s) a l k).b - (pce (wid s) a l k).a by omega]
         rw [hx] at hput
         refine ⟨_,_,_,_,Fn.own (d:=76) (args:=[vP 1001,vPc (pce (wid s) a l k),vOwn 76,vFn b1 b2]) (e:=5) (u:=.u8) (xs:=List.replicate (((pce (wid s) a l k).b : Int) - ((pce (wid s) a l k).a : Int)).toNat (0 : UInt8)) hput rfl,⟨rfl,rfl,rfl,rfl,rfl,rfl,trivial⟩,rfl,?_⟩
         refine ⟨rfl,?_⟩
         exact ⟨rfl,Le.sub trivial ⟨rfl,rfl,rfl,rfl,rfl,rfl,rfl,rfl,trivial⟩⟩
       · have hn2 : ((izrK s a l y k).t.getD (pce (wid s) a l k).c s0).1 = 2:=by
           have hn2 : (!decide (((izrK s a l y k).t.getD (pce (wid s) a l k).c s0).1 = 2)) = false:=hn2
           simpa using hn2
         have e : izrK s a l y (k + 1) = izrK s a l y k:=by
           rw [estep]
           unfold zpS
           rw [ew' hn,if_neg (by decide),if_pos hn2]
         rw [e]
         exact ⟨rfl,Le.sub trivial ⟨rfl,rfl,rfl,rfl,rfl,rfl,rfl,rfl,trivial⟩⟩
   · intro yl J hlift hy
     have h:=pieces_it yl (wid s) a l hW (by omega) (by omega) (fun k=>J (min k (pcN (wid s) a l))) (fun k=>hlift _ _ _ (min k (pcN (wid s) a l)) (min k (pcN (wid s) a l)) (by
       obtain ⟨o1,hb,o3⟩:=hOK (min k (pcN (wid s) a l)) (Nat.min_le_right _ _)
       have h2:=ibytes_fn (izrK s a l y (min k (pcN (wid s) a l))) (by rw [hb]; exact hO.bits)
       rw [show wid (izrK s a l y (min k (pcN (wid s) a l))) = wid s from congrArg (fun b=>16 * 2 ^ b) hb] at h2
       exact Fn.more [(9000,.dep 1001 R),(4,.cells [.ptr 1001 0]),(7,.cells [.d (.fn (114,[b1,b2]))]),(10,.cells [.clo 125 [.p 4 0]])] h2 rfl rfl) rfl rfl) (fun k hk=>by
       have h:=hy k _ (k + 1) ⟨hk,rfl,rfl⟩
       rw [Nat.min_eq_left (by omega),Nat.min_eq_left (by omega)]
       exact h)
     simp only [Nat.zero_min,Nat.min_self] at h
     exact h
   · show TrQ _ _ _ _ _ _ _
     refine TrQ.go tblOK (drawOK tblOK) [] (by kernel_rfl) (Le.refl _ _) ?_
     exact ⟨_,_,_,Le.refl _ _,rfl,rfl,⟨rfl,rfl,rfl,rfl,rfl,trivial⟩,rfl⟩
/-! Images: what put,set leave of an image that nobody broke. No program in sight. -/
theorem zeros_set {l : List Int} {h : Nat} {n m : Int} (hl : l[h]? = some n) : zeros (l.set h m) + (if n = 0 then 1 else 0) = zeros l + (if m = 0 then 1 else 0):=by
 induction l generalizing h with
 | nil=>simp at hl
 | cons x l ih =>
   match h with
   | 0 =>
     simp only [List.getElem?_cons_zero,Option.some.injEq] at hl
     subst hl
     simp only [List.set_cons_zero]
     unfold zeros
     rw [List.filter_cons,List.filter_cons]
     by_cases h1 : x = 0 <;> by_cases h2 : m = 0 <;> simp [h1,h2] <;> omega
   | h + 1 =>
     have hl : l[h]? = some n:=by simpa using hl
     have:=ih hl
     simp only [List.set_cons_succ]
     unfold zeros at *
     rw [List.filter_cons,List.filter_cons]
     by_cases h1 : x = 0 <;> simp [h1] <;> omega
theorem laid_len {xs ys : List UInt8} {a n : Nat} (h1 : a + n ≤ xs.length) (h2 : ys.length = n) : (laid xs a n ys).length = xs.length:=by
 unfold laid
 rw [List.length_append,List.length_append,List.length_take,List.length_take,List.length_drop]
 omega
/-- What put leaves. -/
structure Put (s s' : ImS) (p : Pce) (bs y : List UInt8) : Prop where
 ok : ImOK s'
 bits : s'.bits = s.bits
 tl : s'.t.length = s.t.length
 ll : s'.l.length = s.l.length
 far : ∀ c,c ≠ p.c → s'.t[c]? = s.t[c]? ∧ ∀ z,clus s' c z = clus s c z
 there : ∀ z,clus s' p.c z = laid (clus s p.c (some y)) p.a (p.b - p.a) bs
 dat : iNeeds s' p.c = false
 zer : zeros s'.l + (if iNeeds s p.c = true then 1 else 0) = zeros s.l
theorem clus_of {s : ImS} {c : Nat} {h : Int} {xs : List UInt8} (h1 : s.t[c]? = some ((1 : Int),h,true)) (h2 : s.f h = some xs) (z : Option (List UInt8)) : clus s c z = xs:=by
 unfold clus
 rw [h1]
 simp only [if_pos,h2,Option.getD_some]
theorem clus_congr {s s' : ImS} {c : Nat} (hb : s'.bits = s.bits) (ht : s'.t[c]? = s.t[c]?) (hf : ∀ h,s.t[c]? = some ((1 : Int),h,true) → s'.f h = s.f h) (hO : ImOK s) (z : Option (List UInt8)) : clus s' c z = clus s c z:=by
 have hz : zer s' = zer s:=by unfold zer wid; rw [hb]
 have hw : wid s' = wid s:=by unfold wid; rw [hb]
 unfold clus
 rw [ht]
 cases e : s.t[c]? with
 | none=>rfl
 | some q =>
   simp only
   rcases hO.slot c q e with h | h | ⟨h,e2,_⟩
   · rw [h,hz,hw]; rfl
   · rw [h,hz]; rfl
   · rw [e2] at e
     rw [e2,hf _ e,hz,hw]
theorem needs_of {s : ImS} {c : Nat} {h : Int} (h1 : s.t[c]? = some ((1 : Int),h,true)) : iNeeds s c = false:=by
 unfold iNeeds slWr
 rw [getD_of h1]
 rfl
theorem iown_rest {s : ImS} (hO : ImOK s) {c : Nat} (hc : c < s.t.length) (y : List UInt8) (hz : iNeeds s c = true → 0 < zeros s.l) :
   (iown s c y).bits = s.bits ∧ (iown s c y).l.length = s.l.length ∧ (∀ d,d ≠ c → (iown s c y).t[d]? = s.t[d]? ∧ ∀ h,s.t[d]? = some ((1 : Int),h,true) → (iown s c y).f h = s.f h) ∧ zeros (iown s c y).l + (if iNeeds s c = true then 1 else 0) = zeros s.l:=by
 unfold iown
 by_cases hn : iNeeds s c = true
 · rw [if_pos hn,if_pos hn]
   obtain ⟨z1,z2⟩:=ifree_spec (hz hn)
   refine ⟨rfl,List.length_set,fun d hd=>⟨List.getElem?_set_ne (Ne.symm hd),fun h hh=>?_⟩,?_⟩
   · show (if h = (ifree s.l : Int) then _ else s.f h) = s.f h
     rw [if_neg]
     intro e
     rcases hO.slot d _ hh with e2 | e2 | ⟨h',e2,h3,_⟩
     · cases e2
     · cases e2
     · have : h = (h' : Int):=by injection e2 with _ e2; injection e2
       have : h' = ifree s.l:=by omega
       rw [this,z1] at h3
       cases h3
   · have:=zeros_set (m:=1) z1
     simpa using this
 · rw [if_neg hn,if_neg hn]
   exact ⟨rfl,rfl,fun d _=>⟨rfl,fun _ _=>rfl⟩,rfl⟩
theorem iput_law {s : ImS} (hO : ImOK s) {p : Pce} (hc : p.c < s.t.length) {bs y : List UInt8} (h1 : p.a ≤ p.b) (h2 : p.b ≤ wid s) (h3 : bs.length = p.b - p.a) (hz : iNeeds s p.c = true → 0 < zeros s.l) : Put s (iput s p bs y) p bs y:=by
 obtain ⟨o1,o2,o3,h,o4,o5⟩:=iown_ok hO hc y hz
 obtain ⟨r1,r2,r3,r4⟩:=iown_rest hO hc y hz
 have hcl:=clus_len hO hc (some y)
 unfold iput
 generalize iown s p.c y = s' at *
 generalize hxs : clus s p.c (some y) = xs at *
 have hgd:=getD_of o4
 have e : iputS s' p bs = { s' with f:=fset s'.f (h : Int) (laid xs p.a (p.b - p.a) bs) }:=by
   unfold iputS
   rw [hgd]
   simp only [o5,Option.getD_some]
 rw [e]
 have hll:=laid_len (xs:=xs) (ys:=bs) (a:=p.a) (n:=p.b - p.a) (by omega) h3
 have fne : ∀ (d : Nat) (k : Int),d ≠ p.c → s'.t[d]? = some ((1 : Int),k,true) → fset s'.f (h : Int) (laid xs p.a (p.b - p.a) bs) k = s'.f k:=fun d k hd hk=>by
   unfold fset
   rw [if_neg]
   intro e
   subst e
   exact hd (o1.inj d p.c _ hk o4)
 refine ⟨⟨o1.bits,o1.tl,o1.ll,fun c q hq=>?_,o1.inj,o1.cnt,fun k hk=>?_,o1.used,fset_dom o1.dom (by rw [hll,hcl]; exact wid128 hO.bits)⟩,r1,o3,r2,fun c hcn=>⟨(r3 c hcn).1,fun z=>?_⟩,fun z=>by rw [hxs]; exact clus_of (s:={ s' with f:=fset s'.f (h : Int) (laid xs p.a (p.b - p.a) bs) }) o4 (if_pos rfl) z,needs_of (s:={ s' with f:=fset s'.f (h : Int) (laid xs p.a (p.b - p.a) bs) }) o4,r4⟩
 · rcases o1.slot c q hq with e | e | ⟨k,e,g1,ys,g2,g3⟩
   · exact .inl e
   · exact .inr (.inl e)
   · refine .inr (.inr ⟨k,e,g1,?_⟩)
     by_cases hk : (k : Int) = (h : Int)
     · exact ⟨_,if_pos hk,by rw [hll,hcl,← o2]; rfl⟩
     · exact ⟨ys,(if_neg hk).trans g2,g3⟩
 · show (if (k : Int) = (h : Int) then _ else s'.f k) = none
   rw [if_neg]
   · exact o1.free k hk
   · intro e
     have : k = h:=by omega
     subst this
     rcases o1.slot p.c _ o4 with e | e | ⟨j,e,g1,_⟩
     · cases e
     · cases e
     · have : (k : Int) = (j : Int):=by injection e with _ e; injection e
       have : k = j:=by omega
       rw [this,g1] at hk
       cases hk
 · refine clus_congr (s:=s) (s':={ s' with f:=fset s'.f (h : Int) (laid xs p.a (p.b - p.a) bs) }) r1 (r3 c hcn).1 (fun k hk=>?_) hO z
   rw [← (r3 c hcn).2 k hk]
   exact fne c k hcn ((r3 c hcn).1.trans hk)
/-- What set leaves: a slot without data. -/
structure Sett (s s' : ImS) (c : Nat) (q : Slt) : Prop where
 ok : ImOK s'
 bits : s'.bits = s.bits
 tl : s'.t.length = s.t.length
 ll : s'.l.length = s.l.length
 far : ∀ d,d ≠ c → s'.t[d]? = s.t[d]? ∧ ∀ z,clus s' d z = clus s d z
 there : s'.t[c]? = some q
 zer : zeros s.l ≤ zeros s'.l
theorem iset_law {s : ImS} (hO : ImOK s) {c : Nat} (hc : c < s.t.length) {q : Slt} (hq : q = s0 ∨ q = sZr) : Sett s (iset s c q) c q:=by
 have hold : s.t[c]? = some (s.t.getD c s0):=by rw [List.getD_eq_getElem?_getD,List.getElem?_eq_getElem hc]; rfl
 have hqn : ∀ h : Int,q ≠ ((1 : Int),h,true):=fun h e=>by rcases hq with hq | hq <;> rw [hq] at e <;> cases e
 have hqs : q = s0 ∨ q = ((2 : Int),(0 : Int),false):=hq
 unfold iset iless
 rcases needs_slot hO hc with ⟨_,h⟩ | ⟨_,h,h1,h2,xs,h3,h4⟩
 · have hn : ¬ (s.t.getD c s0).1 = 1:=by rcases h with h | h <;> rw [h] <;> decide
   rw [if_neg hn]
   refine ⟨⟨hO.bits,by show (s.t.set _ _).length ≤ 256; rw [List.length_set]; exact hO.tl,hO.ll,fun d r hr=>?_,fun d e k hd he=>?_,hO.cnt,hO.free,fun k hk=>?_,hO.dom⟩,rfl,List.length_set,rfl,fun d hd=>⟨List.getElem?_set_ne (Ne.symm hd),fun z=>clus_congr (s:=s) (s':={ s with t:=s.t.set c q }) rfl (List.getElem?_set_ne (Ne.symm hd)) (fun _ _=>rfl) hO z⟩,List.getElem?_set_self hc,Nat.le_refl _⟩
   · rw [List.getElem?_set] at hr
     split at hr
     · injection hr with hr
       rw [← hr]
       exact hqs.imp id .inl
     · exact hO.slot d r hr
   · rw [List.getElem?_set] at hd he
     split at hd
     · injection hd with hd; exact absurd hd (hqn k)
     · split at he
       · injection he with he; exact absurd he (hqn k)
       · exact hO.inj d e k hd he
   · obtain ⟨d,hd⟩:=hO.used k hk
     have hne : c ≠ d:=fun e=>by
       subst e
       rw [hold] at hd
       injection hd with hd
       rw [hd] at hn
       exact hn rfl
     exact ⟨d,(List.getElem?_set_ne hne).trans hd⟩
 · have hg:=getD_of h1
   rw [hg,if_pos rfl]
   have hlt : h < s.l.length:=(List.getElem?_eq_some_iff.1 h2).1
   have e0 : ((h : Int)).toNat = h:=rfl
   simp only [e0]
   have other : ∀ (d k : Nat),d ≠ c → s.t[d]? = some ((1 : Int),(k : Int),true) → k ≠ h:=fun d k hd hk e=>by
     subst e
     exact hd (hO.inj d c _ hk h1)
   refine ⟨⟨hO.bits,by show (s.t.set _ _).length ≤ 256; rw [List.length_set]; exact hO.tl,by show (s.l.set _ _).length ≤ 512; rw [List.length_set]; exact hO.ll,fun d r hr=>?_,fun d e k hd he=>?_,fun k n hk=>?_,fun k hk=>?_,fun k hk=>?_,fun k xs hk=>hO.dom k xs (by
     have hk : (if k = (h : Int) then none else s.f k) = some xs:=hk
     split at hk
     · cases hk
     · exact hk)⟩,rfl,List.length_set,List.length_set,fun d hd=>⟨List.getElem?_set_ne (Ne.symm hd),fun z=>clus_congr (s:=s) (s':={ s with t:=s.t.set c q,l:=s.l.set h 0,f:=fdel s.f (h : Int) }) rfl (List.getElem?_set_ne (Ne.symm hd)) (fun k hk=>?_) hO z⟩,List.getElem?_set_self hc,?_⟩
   · rw [List.getElem?_set] at hr
     split at hr
     · injection hr with hr
       rw [← hr]
       exact hqs.imp id .inl
     · rename_i hne
       rcases hO.slot d r hr with e | e | ⟨k,e,g1,ys,g2,g3⟩
       · exact .inl e
       · exact .inr (.inl e)
       · have hk:=other d k (Ne.symm hne) (e ▸ hr)
         exact .inr (.inr ⟨k,e,by show (s.l.set h 0)[k]? = some 1; rw [List.getElem?_set_ne (Ne.symm hk)]; exact g1,ys,by show (if (k : Int) = (h : Int) then none else s.f k) = some ys; rw [if_neg (by omega)]; exact g2,g3⟩)
   · rw [List.getElem?_set] at hd he
     split at hd
     · injection hd with hd; exact absurd hd (hqn k)
     · split at he
       · injection he with he; exact absurd he (hqn k)
       · exact hO.inj d e k hd he
   · rw [List.getElem?_set] at hk
     split at hk
     · injection hk with hk; exact .inl hk.symm
     · exact hO.cnt k n hk
   · show (if (k : Int) = (h : Int) then none else s.f k) = none
     by_cases e : k = h
     · rw [if_pos (by omega)]
     · rw [if_neg (by omega)]
       rw [List.getElem?_set_ne (fun e2=>e e2.symm)] at hk
       exact hO.free k hk
   · by_cases e : k = h
     · subst e
       rw [List.getElem?_set_self hlt] at hk
       cases hk
     · rw [List.getElem?_set_ne (fun e2=>e e2.symm)] at hk
       obtain ⟨d,hd⟩:=hO.used k hk
       have hne : c ≠ d:=fun e2=>by
         subst e2
         rw [h1] at hd
         injection hd with hd
         have : (h : Int) = (k : Int):=by injection hd with _ hd; injection hd
         omega
       exact ⟨d,(List.getElem?_set_ne hne).trans hd⟩
   · rcases hO.slot d _ hk with e | e | ⟨j,e,_⟩
     · cases e
     · cases e
     · have hj : k = (j : Int):=by injection e with _ e; injection e
       subst hj
       have:=other d j hd hk
       show (if (j : Int) = (h : Int) then none else s.f j) = s.f j
       rw [if_neg (by omega)]
   · have:=zeros_set (m:=0) h2
     simp at this
     show zeros s.l ≤ zeros (s.l.set h 0)
     omega
/-! Images: Write,Zero,Discard: what they leave. -/
theorem needs_congr {s s' : ImS} {c : Nat} (h : s'.t[c]? = s.t[c]?) : iNeeds s' c = iNeeds s c:=by
 unfold iNeeds
 rw [List.getD_eq_getElem?_getD,List.getD_eq_getElem?_getD,h]
/-- Two images of one form. -/
structure Like (s s' : ImS) : Prop where
 ok : ImOK s'
 bits : s'.bits = s.bits
 tl : s'.t.length = s.t.length
 ll : s'.l.length = s.l.length
theorem Like.refl {s : ImS} (h : ImOK s) : Like s s:=⟨h,rfl,rfl,rfl⟩
theorem Like.trans {s s' s'' : ImS} (h : Like s s') (k : Like s' s'') : Like s s'':=⟨k.ok,k.bits.trans h.bits,k.tl.trans h.tl,k.ll.trans h.ll⟩
theorem Like.wid {s s' : ImS} (h : Like s s') : wid s' = wid s:=congrArg (fun b=>16 * 2 ^ b) h.bits
theorem Put.like {s s' : ImS} {p : Pce} {bs y : List UInt8} (h : Put s s' p bs y) : Like s s':=⟨h.ok,h.bits,h.tl,h.ll⟩
theorem Sett.like {s s' : ImS} {c : Nat} {q : Slt} (h : Sett s s' c q) : Like s s':=⟨h.ok,h.bits,h.tl,h.ll⟩
/-- As it was,in a cluster. -/
def Same (s s' : ImS) (c : Nat) : Prop:=s'.t[c]? = s.t[c]? ∧ ∀ z,clus s' c z = clus s c z
theorem Same.refl (s : ImS) (c : Nat) : Same s s c:=⟨rfl,fun _=>rfl⟩
theorem Same.trans {s s' s'' : ImS} {c : Nat} (h : Same s s' c) (k : Same s' s'' c) : Same s s'' c:=⟨k.1.trans h.1,fun z=>(k.2 z).trans (h.2 z)⟩
/-- What is below an image's Holes,whatever is written to it. -/
def Bel (s : ImS) (R : Pl → Ob) (b1 b2 : Nat) (y : Nat → List UInt8) : Prop:=∀ s',Like s s' → ∀ (c : Nat) (h : c < s'.t.length),(s'.t[c]).1 = 0 → BelowI s' R b1 b2 c (y c)
theorem ndK_mono (s : ImS) (a l : Nat) {j k : Nat} (h : j ≤ k) : ndK s a l j ≤ ndK s a l k:=by
 induction k with
 | zero=>have : j = 0:=by omega
           rw [this]; exact Nat.le_refl _
 | succ k ih =>
   by_cases e : j = k + 1
   · rw [e]; exact Nat.le_refl _
   · have:=ih (by omega)
     show ndK s a l j ≤ ndK s a l k + _
     omega
theorem bsP_len {bs : List UInt8} {p : Pce} (h1 : p.a ≤ p.b) (h2 : p.at_ + (p.b - p.a) ≤ bs.length) : (bsP bs p).length = p.b - p.a:=by
 unfold bsP
 rw [List.length_drop,List.length_take]
 omega
structure WrI (s : ImS) (a l : Nat) (bs : List UInt8) (y : Nat → List UInt8) (k : Nat) : Prop where
 like : Like s (iwrK s a l bs y k)
 zer : zeros (iwrK s a l bs y k).l + ndK s a l k = zeros s.l
 far : ∀ c,(c < 16 * a / wid s ∨ 16 * a / wid s + k ≤ c) → Same s (iwrK s a l bs y k) c
 done : ∀ j,j < k → iNeeds (iwrK s a l bs y k) (16 * a / wid s + j) = false ∧ ∀ z,clus (iwrK s a l bs y k) (16 * a / wid s + j) z = laid (clus s (16 * a / wid s + j) (some (y (16 * a / wid s + j)))) (pce (wid s) a l j).a ((pce (wid s) a l j).b - (pce (wid s) a l j).a) (bsP bs (pce (wid s) a l j))
theorem wrStep {s : ImS} (hO : ImOK s) {a l : Nat} {bs : List UInt8} (hbl : bs.length = 16 * l) (hall : a + l ≤ iall s) {y : Nat → List UInt8} (hnd : ndK s a l (pcN (wid s) a l) ≤ zeros s.l) {k : Nat} (h : WrI s a l bs y k) (hk : k < pcN (wid s) a l) : Put (iwrK s a l bs y k) (iwrK s a l bs y (k + 1)) (pce (wid s) a l k) (bsP bs (pce (wid s) a l k)) (y (pce (wid s) a l k).c) ∧ (iNeeds (iwrK s a l bs y k) (pce (wid s) a l k).c = true → 0 < zeros (iwrK s a l bs y k).l):=by
 have hW:=wid_isW hO.bits
 obtain ⟨p1,p2,p3,p4⟩:=pce_ok hW hk
 obtain ⟨hc,_⟩:=pce_c hO hall hk
 have hsame:=h.far (16 * a / wid s + k) (.inr (Nat.le_refl _))
 have hz : iNeeds (iwrK s a l bs y k) (pce (wid s) a l k).c = true → 0 < zeros (iwrK s a l bs y k).l:=fun hn=>by
   have e3 : iNeeds (iwrK s a l bs y k) (pce (wid s) a l k).c = iNeeds s (pce (wid s) a l k).c:=needs_congr hsame.1
   rw [e3] at hn
   have h1:=ndK_mono s a l (show k + 1 ≤ pcN (wid s) a l from hk)
   have h2 : ndK s a l (k + 1) = ndK s a l k + 1:=by
     show ndK s a l k + _ = _
     rw [if_pos hn]
   have:=h.zer
   omega
 exact ⟨iput_law h.like.ok (by rw [h.like.tl]; exact hc) p1 (by rw [h.like.wid]; exact p2) (bsP_len p1 (by omega)) hz,hz⟩
theorem wrI {s : ImS} (hO : ImOK s) {a l : Nat} {bs : List UInt8} (hbl : bs.length = 16 * l) (hall : a + l ≤ iall s) (y : Nat → List UInt8) (hnd : ndK s a l (pcN (wid s) a l) ≤ zeros s.l) : ∀ k,k ≤ pcN (wid s) a l → WrI s a l bs y k ∧ (k < pcN (wid s) a l → Put (iwrK s a l bs y k) (iwrK s a l bs y (k + 1)) (pce (wid s) a l k) (bsP bs (pce (wid s) a l k)) (y (pce (wid s) a l k).c) ∧ (iNeeds (iwrK s a l bs y k) (pce (wid s) a l k).c = true → 0 < zeros (iwrK s a l bs y k).l))
 | 0,hk=>by
   have h0 : WrI s a l bs y 0:=⟨Like.refl hO,rfl,fun c _=>Same.refl s c,fun j hj=>absurd hj (by omega)⟩
   exact ⟨h0,fun hk=>wrStep hO hbl hall hnd h0 hk⟩
 | k + 1,hk=>by
   obtain ⟨h,hs⟩:=wrI hO hbl hall y hnd k (by omega)
   have hk2 : k < pcN (wid s) a l:=by omega
   obtain ⟨hp,_⟩:=hs hk2
   have hpc : (pce (wid s) a l k).c = 16 * a / wid s + k:=rfl
   have hsame:=h.far (16 * a / wid s + k) (.inr (Nat.le_refl _))
   have h1 : WrI s a l bs y (k + 1):=by
     refine ⟨h.like.trans hp.like,?_,fun c hc=>?_,fun j hj=>?_⟩
     · have e1:=hp.zer
       have e2:=h.zer
       have e3 : iNeeds (iwrK s a l bs y k) (pce (wid s) a l k).c = iNeeds s (pce (wid s) a l k).c:=needs_congr hsame.1
       rw [e3] at e1
       show zeros _ + (ndK s a l k + _) = _
       omega
     · exact (h.far c (hc.imp id fun h=>by omega)).trans (hp.far c (by rw [hpc]; omega))
     · by_cases e : j = k
       · subst e
         refine ⟨hp.dat,fun z=>?_⟩
         have:=hp.there z
         rw [hpc] at this
         rw [this,hsame.2]
       · obtain ⟨g1,g2⟩:=h.done j (by omega)
         have hf:=hp.far (16 * a / wid s + j) (by rw [hpc]; omega)
         exact ⟨(needs_congr hf.1).trans g1,fun z=>(hf.2 z).trans (g2 z)⟩
   exact ⟨h1,fun hk=>wrStep hO hbl hall hnd h1 hk⟩
def iwE (s : ImS) (a l : Nat) : Int:=if ndK s a l (pcN (wid s) a l) ≤ zeros s.l then 0 else 120
def iwS (s : ImS) (a l : Nat) (bs : List UInt8) (y : Nat → List UInt8) : ImS:=if ndK s a l (pcN (wid s) a l) ≤ zeros s.l then iwrK s a l bs y (pcN (wid s) a l) else s
theorem iwrite_fn (s : ImS) (R : Pl → Ob) (b1 b2 : Nat) (hO : ImOK s) (a l : Nat) (bs : List UInt8) (hbl : bs.length = 16 * l) (h0 : iIns s a l = 0) (y : Nat → List UInt8) (hB : Bel s R b1 b2 y) :
   Fn Tryz.prog 91 [vP 1001,vI (a : Int),vL .u8 bs,vFn b1 b2] (imR s R) [] (vI (iwE s a l)) (imR (iwS s a l bs y) R):=by
 have hall:=iIns_all h0
 refine iwrite_in s R b1 b2 hO a l bs hbl h0 y _ _ (fun h=>⟨if_neg (by omega),if_neg (by omega)⟩) (fun h=>⟨if_pos h,if_pos h⟩) (fun hnd k hk=>?_) (fun hnd k hk=>(wrI hO hbl hall y hnd k hk).1.like.bits)
 obtain ⟨h,hs⟩:=wrI hO hbl hall y hnd k (Nat.le_of_lt hk)
 obtain ⟨_,hz⟩:=hs hk
 obtain ⟨p1,p2,p3,p4⟩:=pce_ok (wid_isW hO.bits) hk
 obtain ⟨hc,_⟩:=pce_c hO hall hk
 have hc2 : (pce (wid s) a l k).c < (iwrK s a l bs y k).t.length:=by rw [h.like.tl]; exact hc
 exact iput_fn (iwrK s a l bs y k) R b1 b2 h.like.ok (pce (wid s) a l k) hc2 (bsP bs (pce (wid s) a l k)) p1 (by rw [h.like.wid]; exact p2) (bsP_len p1 (by omega)) (y (pce (wid s) a l k).c) (fun e=>hB _ h.like _ hc2 e) hz
theorem iwS_like {s : ImS} (hO : ImOK s) {a l : Nat} {bs : List UInt8} (hbl : bs.length = 16 * l) (h0 : iIns s a l = 0) (y : Nat → List UInt8) : Like s (iwS s a l bs y):=by
 unfold iwS
 split
 · rename_i h; exact (wrI hO hbl (iIns_all h0) y h _ (Nat.le_refl _)).1.like
 · exact Like.refl hO
/-! ### Discard -/
structure DsI (s : ImS) (a l : Nat) (k : Nat) : Prop where
 like : Like s (idsK s a l k)
 far : ∀ c,(c < 16 * a / wid s ∨ 16 * a / wid s + k ≤ c) → Same s (idsK s a l k) c
 done : ∀ j,j < k → if (pce (wid s) a l j).b - (pce (wid s) a l j).a = wid s then (idsK s a l k).t[16 * a / wid s + j]? = some s0 else Same s (idsK s a l k) (16 * a / wid s + j)
theorem dsI {s : ImS} (hO : ImOK s) {a l : Nat} (hall : a + l ≤ iall s) : ∀ k,k ≤ pcN (wid s) a l → DsI s a l k
 | 0,_=>⟨Like.refl hO,fun c _=>Same.refl s c,fun j hj=>absurd hj (by omega)⟩
 | k + 1,hk=>by
   have h:=dsI hO hall k (by omega)
   have hk2 : k < pcN (wid s) a l:=by omega
   obtain ⟨hc,_⟩:=pce_c hO hall hk2
   have hpc : (pce (wid s) a l k).c = 16 * a / wid s + k:=rfl
   have hsame:=h.far (16 * a / wid s + k) (.inr (Nat.le_refl _))
   by_cases e : (pce (wid s) a l k).b - (pce (wid s) a l k).a = wid s
   · have e1 : idsK s a l (k + 1) = iset (idsK s a l k) (pce (wid s) a l k).c s0:=if_pos e
     have hp:=iset_law h.like.ok (c:=(pce (wid s) a l k).c) (by rw [h.like.tl]; exact hc) (q:=s0) (.inl rfl)
     rw [← e1] at hp
     refine ⟨h.like.trans hp.like,fun c hc=>(h.far c (hc.imp id fun h=>by omega)).trans (hp.far c (by rw [hpc]; omega)),fun j hj=>?_⟩
     by_cases ej : j = k
     · subst ej
       rw [if_pos e]
       exact hp.there
     · have g:=h.done j (by omega)
       have hf:=hp.far (16 * a / wid s + j) (by rw [hpc]; omega)
       split
       · rename_i e2
         rw [if_pos e2] at g
         exact hf.1.trans g
       · rename_i e2
         rw [if_neg e2] at g
         exact g.trans hf
   · have e1 : idsK s a l (k + 1) = idsK s a l k:=if_neg e
     rw [show DsI s a l (k + 1) ↔ DsI s a l (k + 1) from Iff.rfl]
     refine ⟨by rw [e1]; exact h.like,fun c hc=>by rw [e1]; exact h.far c (hc.imp id fun h=>by omega),fun j hj=>?_⟩
     rw [e1]
     by_cases ej : j = k
     · subst ej
       rw [if_neg e]
       exact hsame
     · exact h.done j (by omega)
def idsS (s : ImS) (a l : Nat) : ImS:=idsK s a l (pcN (wid s) a l)
theorem host_of {s : ImS} (hO : ImOK s) {c : Nat} (hc : c < s.t.length) : (s.t.getD c s0).1 = 1 → ∃ h : Nat,(s.t.getD c s0).2.1 = (h : Int) ∧ s.l[h]? = some 1:=fun h1=>by
 rcases needs_slot hO hc with ⟨_,h⟩ | ⟨_,h,g1,g2,_⟩
 · rcases h with h | h <;> rw [h] at h1 <;> cases h1
 · exact ⟨h,by rw [getD_of g1],g2⟩
theorem idiscard_fn (s : ImS) (hO : ImOK s) (a l : Nat) (h0 : iIns s a l = 0) : Fn Tryz.prog 102 [vP 1001,vI (a : Int),vI (l : Int)] (imB s) [] (vI 0) (imB (idsS s a l)):=by
 have hall:=iIns_all h0
 refine idiscard_in s hO a l h0 (fun k hk=>?_) (fun k hk=>(dsI hO hall k hk).like.bits)
 have h:=dsI hO hall k (Nat.le_of_lt hk)
 obtain ⟨hc,_⟩:=pce_c hO hall hk
 have hc2 : (pce (wid s) a l k).c < (idsK s a l k).t.length:=by rw [h.like.tl]; exact hc
 exact iset_fn (idsK s a l k) h.like.ok.tl _ hc2 s0 ⟨by decide,by decide⟩ rfl (host_of h.like.ok hc2)
/-! ### Zero -/
structure ZrI (s : ImS) (a l : Nat) (y : Nat → List UInt8) (k : Nat) : Prop where
 like : Like s (izrK s a l y k)
 zer : zeros s.l ≤ zeros (izrK s a l y k).l + zdK s a l k
 far : ∀ c,(c < 16 * a / wid s ∨ 16 * a / wid s + k ≤ c) → Same s (izrK s a l y k) c
theorem zdK_mono (s : ImS) (a l : Nat) {j k : Nat} (h : j ≤ k) : zdK s a l j ≤ zdK s a l k:=by
 induction k with
 | zero=>have : j = 0:=by omega
           rw [this]; exact Nat.le_refl _
 | succ k ih =>
   by_cases e : j = k + 1
   · rw [e]; exact Nat.le_refl _
   · have:=ih (by omega)
     show zdK s a l j ≤ zdK s a l k + _
     omega
theorem whole_like {s s' : ImS} (h : Like s s') (p : Pce) : isWhole s' p = isWhole s p:=by unfold isWhole; rw [h.wid]
theorem zrHz {s : ImS} {a l : Nat} {y : Nat → List UInt8} (hnd : zdK s a l (pcN (wid s) a l) ≤ zeros s.l) {k : Nat} (h : ZrI s a l y k) (hk : k < pcN (wid s) a l) (hw : isWhole s (pce (wid s) a l k) = false) (h2 : ((izrK s a l y k).t.getD (pce (wid s) a l k).c s0).1 ≠ 2) :
   iNeeds (izrK s a l y k) (pce (wid s) a l k).c = true → 0 < zeros (izrK s a l y k).l:=fun hn=>by
 have hsame:=h.far (16 * a / wid s + k) (.inr (Nat.le_refl _))
 have e3 : iNeeds (izrK s a l y k) (pce (wid s) a l k).c = iNeeds s (pce (wid s) a l k).c:=needs_congr hsame.1
 have e4 : (izrK s a l y k).t.getD (pce (wid s) a l k).c s0 = s.t.getD (pce (wid s) a l k).c s0:=by
   rw [List.getD_eq_getElem?_getD,List.getD_eq_getElem?_getD]
   exact congrArg (fun o=>o.getD s0) hsame.1
 rw [e3] at hn
 rw [e4] at h2
 have hz : zNeeds s (pce (wid s) a l k) = true:=by
   unfold zNeeds
   rw [hw,decide_eq_true h2,hn]
   rfl
 have h1:=zdK_mono s a l (show k + 1 ≤ pcN (wid s) a l from hk)
 have h3 : zdK s a l (k + 1) = zdK s a l k + 1:=by
   show zdK s a l k + _ = _
   rw [if_pos hz]
 have:=h.zer
 omega
theorem zrI {s : ImS} (hO : ImOK s) {a l : Nat} (hall : a + l ≤ iall s) (y : Nat → List UInt8) (hnd : zdK s a l (pcN (wid s) a l) ≤ zeros s.l) : ∀ k,k ≤ pcN (wid s) a l → ZrI s a l y k
 | 0,_=>⟨Like.refl hO,Nat.le_add_right _ _,fun c _=>Same.refl s c⟩
 | k + 1,hk=>by
   have h:=zrI hO hall y hnd k (by omega)
   have hk2 : k < pcN (wid s) a l:=by omega
   obtain ⟨hc,_⟩:=pce_c hO hall hk2
   obtain ⟨p1,p2,p3,p4⟩:=pce_ok (wid_isW hO.bits) hk2
   have hpc : (pce (wid s) a l k).c = 16 * a / wid s + k:=rfl
   have hc2 : (pce (wid s) a l k).c < (izrK s a l y k).t.length:=by rw [h.like.tl]; exact hc
   have hsame:=h.far (16 * a / wid s + k) (.inr (Nat.le_refl _))
   have hzd : zdK s a l (k + 1) = zdK s a l k + (if zNeeds s (pce (wid s) a l k) = true then 1 else 0):=rfl
   have e1 : izrK s a l y (k + 1) = zpS (izrK s a l y k) (pce (wid s) a l k) (y (pce (wid s) a l k).c):=rfl
   unfold zpS at e1
   rw [whole_like h.like] at e1
   by_cases hw : isWhole s (pce (wid s) a l k) = true
   · rw [if_pos hw] at e1
     have hp:=iset_law h.like.ok (c:=(pce (wid s) a l k).c) hc2 (q:=sZr) (.inr rfl)
     rw [← e1] at hp
     refine ⟨h.like.trans hp.like,?_,fun c hc=>(h.far c (hc.imp id fun h=>by omega)).trans (hp.far c (by rw [hpc]; omega))⟩
     have:=hp.zer
     have:=h.zer
     omega
   · have hw : isWhole s (pce (wid s) a l k) = false:=by simpa using hw
     rw [hw,if_neg (by decide)] at e1
     by_cases h2 : ((izrK s a l y k).t.getD (pce (wid s) a l k).c s0).1 = 2
     · rw [if_pos h2] at e1
       refine ⟨by rw [e1]; exact h.like,?_,fun c hc=>by rw [e1]; exact h.far c (hc.imp id fun h=>by omega)⟩
       rw [e1]
       have:=h.zer
       omega
     · rw [if_neg h2] at e1
       have hp:=iput_law (y:=y (pce (wid s) a l k).c) (bs:=zerB ((pce (wid s) a l k).b - (pce (wid s) a l k).a)) h.like.ok hc2 p1 (by rw [h.like.wid]; exact p2) List.length_replicate (zrHz hnd h hk2 hw h2)
       rw [← e1] at hp
       refine ⟨h.like.trans hp.like,?_,fun c hc=>(h.far c (hc.imp id fun h=>by omega)).trans (hp.far c (by rw [hpc]; omega))⟩
       have e5:=hp.zer
       have e3 : iNeeds (izrK s a l y k) (pce (wid s) a l k).c = iNeeds s (pce (wid s) a l k).c:=needs_congr hsame.1
       have e4 : (izrK s a l y k).t.getD (pce (wid s) a l k).c s0 = s.t.getD (pce (wid s) a l k).c s0:=by
         rw [List.getD_eq_getElem?_getD,List.getD_eq_getElem?_getD]
         exact congrArg (fun o=>o.getD s0) hsame.1
       rw [e4] at h2
       have hz : zNeeds s (pce (wid s) a l k) = iNeeds s (pce (wid s) a l k).c:=by
         unfold zNeeds
         rw [hw,decide_eq_true h2]
         rfl
       rw [e3,← hz] at e5
       have:=h.zer
       omega
def izE (s : ImS) (a l : Nat) : Int:=if zdK s a l (pcN (wid s) a l) ≤ zeros s.l then 0 else 120
def izS (s : ImS) (a l : Nat) (y : Nat → List UInt8) : ImS:=if zdK s a l (pcN (wid s) a l) ≤ zeros s.l then izrK s a l y (pcN (wid s) a l) else s
theorem izero_fn (s : ImS) (R : Pl → Ob) (b1 b2 : Nat) (hO : ImOK s) (a l : Nat) (h0 : iIns s a l = 0) (y : Nat → List UInt8) (hB : Bel s R b1 b2 y) :
   Fn Tryz.prog 100 [vP 1001,vI (a : Int),vI (l : Int),vFn b1 b2] (imR s R) [] (vI (izE s a l)) (imR (izS s a l y) R):=by
 have hall:=iIns_all h0
 refine izero_in s R b1 b2 hO a l h0 y _ _ (fun h=>⟨if_neg (by omega),if_neg (by omega)⟩) (fun h=>⟨if_pos h,if_pos h⟩) (fun hnd k hk=>?_) (fun hnd k hk hw=>?_) (fun hnd k hk hw h2=>?_)
 · have h:=(zrI hO hall y hnd k hk).like
   exact ⟨h.ok,h.bits,h.tl⟩
 · have h:=zrI hO hall y hnd k (Nat.le_of_lt hk)
   obtain ⟨hc,_⟩:=pce_c hO hall hk
   have hc2 : (pce (wid s) a l k).c < (izrK s a l y k).t.length:=by rw [h.like.tl]; exact hc
   have e1 : izrK s a l y (k + 1) = iset (izrK s a l y k) (pce (wid s) a l k).c sZr:=if_pos ((whole_like h.like _).trans hw)
   rw [e1]
   exact iset_fn (izrK s a l y k) h.like.ok.tl _ hc2 sZr ⟨by decide,by decide⟩ rfl (host_of h.like.ok hc2)
 · have h:=zrI hO hall y hnd k (Nat.le_of_lt hk)
   obtain ⟨hc,_⟩:=pce_c hO hall hk
   obtain ⟨p1,p2,p3,p4⟩:=pce_ok (wid_isW hO.bits) hk
   have hc2 : (pce (wid s) a l k).c < (izrK s a l y k).t.length:=by rw [h.like.tl]; exact hc
   have e1 : izrK s a l y (k + 1) = iput (izrK s a l y k) (pce (wid s) a l k) (zerB ((pce (wid s) a l k).b - (pce (wid s) a l k).a)) (y (pce (wid s) a l k).c):=by
     show zpS _ _ _ = _
     unfold zpS
     rw [whole_like h.like,hw,if_neg (by decide),if_neg h2]
   rw [e1]
   exact iput_fn (izrK s a l y k) R b1 b2 h.like.ok (pce (wid s) a l k) hc2 _ p1 (by rw [h.like.wid]; exact p2) List.length_replicate _ (fun e=>hB _ h.like _ hc2 e) (zrHz hnd h hk hw h2)
theorem izS_like {s : ImS} (hO : ImOK s) {a l : Nat} (h0 : iIns s a l = 0) (y : Nat → List UInt8) : Like s (izS s a l y):=by
 unfold izS
 split
 · rename_i h; exact (zrI hO (iIns_all h0) y h _ (Nat.le_refl _)).like
 · exact Like.refl hO
theorem izero_end (s : ImS) (R : Pl → Ob) (b1 b2 : Nat) (hO : ImOK s) (a l : Int) (h0 : iIns s a l ≠ 0) : Fn Tryz.prog 100 [vP 1001,vI a,vI l,vFn b1 b2] (imR s R) [] (vI (iIns s a l)) (imR s R):=by
 refine Fn.of tblOK [] _ _ _ _ _ Tryz.func100 rfl rfl (by kernel_rfl) (by kernel_rfl) rfl (drawOK tblOK) rfl ?_
 refine ⟨rfl,rfl,?_⟩
 refine ⟨_,_,_,_,iinside_fn s hO a l,⟨rfl,rfl,rfl,rfl,trivial⟩,rfl,?_⟩
 refine ⟨fun _=>?_,fun h=>absurd (show iIns s a l = 0 by have h : (!decide (iIns s a l = 0)) = false:=h; simpa using h) h0⟩
 exact ⟨_,_,_,Le.refl _ _,rfl,rfl,⟨rfl,rfl,rfl,rfl,rfl,trivial⟩,rfl⟩
/-! Images: New,Copy. -/
def iNew (bits size room : Nat) : ImS:=⟨bits,List.replicate size s0,List.replicate room (0 : Int),fnone⟩
theorem iNew_ok {bits size room : Nat} (h1 : bits ≤ 3) (h2 : size ≤ 256) (h3 : room ≤ 512) : ImOK (iNew bits size room):=by
 have ht : ∀ (c : Nat) (q : Slt),(iNew bits size room).t[c]? = some q → q = s0:=fun c q h=>by
   have h : (List.replicate size s0)[c]? = some q:=h
   rw [List.getElem?_replicate] at h
   split at h
   · injection h with h; exact h.symm
   · cases h
 have hl : ∀ (h : Nat) n,(iNew bits size room).l[h]? = some n → n = 0:=fun h n e=>by
   have e : (List.replicate room (0 : Int))[h]? = some n:=e
   rw [List.getElem?_replicate] at e
   split at e
   · injection e with e; exact e.symm
   · cases e
 refine ⟨h1,by show (List.replicate size s0).length ≤ 256; rw [List.length_replicate]; exact h2,by show (List.replicate room (0 : Int)).length ≤ 512; rw [List.length_replicate]; exact h3,fun c q hq=>.inl (ht c q hq),fun c d h hc hd=>?_,fun h n hn=>.inl (hl h n hn),fun h _=>rfl,fun h hh=>?_,fun k xs hk=>(by cases hk)⟩
 · have:=ht c _ hc; cases this
 · have:=hl h _ hh; cases this
def newMay (bits size room : Int) : Bool:=decide (0 ≤ size) && decide (size ≤ 256) && (decide (0 ≤ room) && decide (room ≤ 512)) && (decide (0 ≤ bits) && decide (bits ≤ 3))
theorem inew_ok (bits size room : Nat) (h1 : bits ≤ 3) (h2 : size ≤ 256) (h3 : room ≤ 512) : Fn Tryz.prog 47 [vI (bits : Int),vI (size : Int),vI (room : Int)] [] [1001,1002,1003,1004] (.tup [.one (.ptr 1001 0),vErr 0]) (imB (iNew bits size room)):=by
 refine Fn.of tblOK [3] _ _ _ _ _ Tryz.func47 rfl rfl (by kernel_rfl) (by kernel_rfl) rfl (drawOK tblOK) rfl ?_
 refine ⟨_,_,_,_,Fn.ren [(1001,1002),(1002,2002)] (tnew_ok size h2),trivial,rfl,?_⟩
 refine ⟨_,_,_,_,Fn.ren [(1001,1003),(1002,2003)] (cnew_ok (room : Int) (by omega) (by omega)),trivial,rfl,?_⟩
 show TrQ _ _ _ _ _ _ _
 refine TrQ.go tblOK (drawOK tblOK) [] (by kernel_rfl) (Le.sub (K':=[(0,vI (bits : Int)),(8,vP 1002),(9,vI 0),(10,vP 1003),(11,vI 0)]) (B':=[(1002,.obj (tabO (List.replicate size s0))),(1003,.obj (cntO (List.replicate room (0 : Int))))]) ⟨rfl,rfl,rfl,rfl,rfl,trivial⟩ ⟨rfl,rfl,trivial⟩) ?_
 refine ⟨fun h=>absurd h (by decide),fun _=>?_⟩
 refine ⟨fun h=>absurd h (by decide),fun _=>?_⟩
 refine ⟨fun h=>?_,fun h=>?_⟩
 · exfalso
   have h : (bits : Int) < 0:=of_decide_eq_true h
   omega
 refine ⟨fun h=>?_,fun h=>?_⟩
 · exfalso
   have h : (3 : Int) < (bits : Int):=of_decide_eq_true h
   omega
 refine ⟨rfl,?_⟩
 refine ⟨rfl,?_⟩
 exact ⟨_,_,_,(Le.ren 41 1001 rfl).trans ((Le.ren 39 1004 rfl).trans (Le.dataEmp 1004 rfl)),rfl,⟨rfl,rfl,trivial⟩,⟨rfl,rfl,rfl,rfl,trivial⟩,rfl⟩
theorem iall_bad {bits size room : Int} (h : newMay bits size room = false) : ¬ (0 ≤ size ∧ size ≤ 256) ∨ ¬ (0 ≤ room ∧ room ≤ 512) ∨ ¬ (0 ≤ bits ∧ bits ≤ 3):=by
 unfold newMay at h
 by_cases h1 : 0 ≤ size ∧ size ≤ 256
 · by_cases h2 : 0 ≤ room ∧ room ≤ 512
   · by_cases h3 : 0 ≤ bits ∧ bits ≤ 3
     · rw [decide_eq_true h1.1,decide_eq_true h1.2,decide_eq_true h2.1,decide_eq_true h2.2,decide_eq_true h3.1,decide_eq_true h3.2] at h
       cases h
     · exact .inr (.inr h3)
   · exact .inr (.inl h2)
 · exact .inl h1
theorem inew_bad (bits size room : Int) (h : newMay bits size room = false) : Fn Tryz.prog 47 [vI bits,vI size,vI room] [] [] (.tup [vNilP,vErr 1]) []:=by
 have hb:=iall_bad h
 refine Fn.of tblOK [] _ _ _ _ _ Tryz.func47 rfl rfl (by kernel_rfl) (by kernel_rfl) rfl (drawOK tblOK) rfl ?_
 by_cases h1 : 0 ≤ size ∧ size ≤ 256
 · obtain ⟨sn,rfl⟩ : ∃ n : Nat,size = (n : Int):=⟨size.toNat,by omega⟩
   refine ⟨_,_,_,_,Fn.ren [(1001,1002),(1002,2002)] (tnew_ok sn (by omega)),trivial,rfl,?_⟩
   by_cases h2 : 0 ≤ room ∧ room ≤ 512
   · refine ⟨_,_,_,_,Fn.ren [(1001,1003),(1002,2003)] (cnew_ok room (by omega) (by omega)),trivial,rfl,?_⟩
     refine ⟨fun h=>absurd h (by decide),fun _=>?_⟩
     refine ⟨fun h=>absurd h (by decide),fun _=>?_⟩
     refine ⟨fun _=>?_,fun h3=>?_⟩
     · exact ⟨_,_,_,Le.refl _ _,rfl,⟨rfl,rfl,trivial⟩,trivial,rfl⟩
     · refine ⟨fun _=>?_,fun h4=>?_⟩
       · exact ⟨_,_,_,Le.refl _ _,rfl,⟨rfl,rfl,trivial⟩,trivial,rfl⟩
       · exfalso
         have h3 : ¬ bits < 0:=of_decide_eq_false h3
         have h4 : ¬ (3 : Int) < bits:=of_decide_eq_false h4
         omega
   · refine ⟨_,_,_,_,cnew_bad room h2,trivial,rfl,?_⟩
     refine ⟨fun h=>absurd h (by decide),fun _=>?_⟩
     refine ⟨fun _=>?_,fun h=>absurd h (by decide)⟩
     exact ⟨_,_,_,Le.refl _ _,rfl,⟨rfl,rfl,trivial⟩,trivial,rfl⟩
 · refine ⟨_,_,_,_,tnew_bad size h1,trivial,rfl,?_⟩
   by_cases h2 : 0 ≤ room ∧ room ≤ 512
   · refine ⟨_,_,_,_,Fn.ren [(1001,1003),(1002,2003)] (cnew_ok room (by omega) (by omega)),trivial,rfl,?_⟩
     refine ⟨fun _=>?_,fun h=>absurd h (by decide)⟩
     exact ⟨_,_,_,Le.refl _ _,rfl,⟨rfl,rfl,trivial⟩,trivial,rfl⟩
   · refine ⟨_,_,_,_,cnew_bad room h2,trivial,rfl,?_⟩
     refine ⟨fun _=>?_,fun h=>absurd h (by decide)⟩
     exact ⟨_,_,_,Le.refl _ _,rfl,⟨rfl,rfl,trivial⟩,trivial,rfl⟩
end Go.Proofs.YteoamepgonpdlaaGreat
/-!
  A contract by way of another one: what holds at the call is turned, the other function's contract used, and what it leaves turned back.
-/
namespace Go.Proofs.YteoamepgonpdlaaGreat
set_option linter.unusedVariables false
set_option linter.unusedSimpArgs false
open Go.RowKit
theorem Fn.via {P : Program} {f : FuncId} {args : List SV} {Bi : BL} {nw : List Nat} {res : SV} {Bo : BL} {X : Type} {args' : X → List SV} {B1 : X → BL} {Bi' : X → BL} {nw' : X → List Nat} {res' : X → SV} {Bo' : X → BL} (hcall : callable P f = true) (n : Nat) (hn : args.length = n)
   (hin : LeX (keysB Bi) (argsK 0 args) Bi (fun x=>argsK 0 (args' x)) B1) (h : ∀ x,Fn P f (args' x) (Bi' x) (nw' x) (res' x) (Bo' x)) (hsub : ∀ x,subB (B1 x) (Bi' x)) (hfr : ∀ x,(allFresh (keysB Bi) (argsK 0 (args' x)) (B1 x) (nw' x) && outOK (Bi' x) (nw' x) (Bo' x)) = true) (hlen : ∀ x,(args' x).length = n)
   (hout : ∀ x,∃ (r : SV) (B2 : BL),Le (keysB Bi) ((n,res' x) :: argsK 0 (args' x)) (applyB (effB (Bi' x) (Bo' x)) (B1 x)) [(n,r)] B2 ∧ leV r res ∧ subB B2 Bo ∧ (res.among (keysB Bi ++ nw) && amongB (keysB Bi ++ nw) Bo && (keysB Bo).all (fun c=>(keysB Bi ++ nw).contains c)) = true) : Fn P f args Bi nw res Bo:=by
 refine ⟨hcall,fun ρ F I w vals hI hH hF hdj hvl hden=>?_⟩
 let C : Ctx:=⟨w,I,fun b=>∃ c ch,lookB Bi c = some ch ∧ F c b,ρ,[]⟩
 let a : Act:={ tmps:=(vals ++ [undef]).toArray,defers:=[] }
 have hImm : Ext I w (Imm C Bi F w) w:=fun b hb=>⟨⟨hI b hb,.inl hb,fun c ch hc hFb=>(hF c ch hc b hFb).2 hb⟩,rfl⟩
 have hM0 : Mem (keysB Bi) C Bi ρ F w:=⟨Fr.refl _ _,fun c ch hc=>Holds.stable hImm (fun _ _=>rfl) (Nat.le_refl _) ch (fun _ _=>rfl) (hH c ch hc),fun c ch hc b hb=>⟨(hF c ch hc b hb).1,.inl ⟨c,ch,hc,hb⟩⟩,hdj,fun c _=>rfl,List.nodup_nil,fun b hb=>hb.elim (hI b) fun ⟨c,ch,hc,hF'⟩=>(hF c ch hc b hF').1,fun D hD=>by cases hD⟩
 have hts : ∀ (i : Nat) (hi : i < vals.length),a.tmps.getD i undef = vals[i]:=fun i hi=>by
   show (vals ++ [undef]).toArray.getD i undef = _
   rw [Array.getD_eq_getD_getElem?,List.getElem?_toArray,List.getElem?_append_left hi,List.getElem?_eq_getElem hi]
   rfl
 have hSat : Sat (n + 1) (keysB Bi) C (argsK 0 args) Bi a w:=by
   refine ⟨by show (vals ++ [undef]).toArray.size = n + 1; simp [hvl,hn],rfl,ρ,F,hM0,fun s=>?_⟩
   rw [look_argsK]
   simp only [Nat.zero_le,if_true,Nat.sub_zero]
   cases hs : args[s]? with
   | none=>trivial
   | some v =>
     have hlt : s < vals.length:=by rw [hvl]; exact (List.getElem?_eq_some_iff.1 hs).1
     simp only [Option.getD_some]
     have hx : vals[s]? = some vals[s]:=List.getElem?_eq_getElem hlt
     have:=DenV.mono hImm v _ (fun _ _=>rfl) (hden s v _ hs hx)
     rw [hts s hlt]
     exact this
 obtain ⟨x,hn1,hd1,ρ1,F1,hM,hS⟩:=hin (n + 1) C a w hSat
 have hB1 : ∀ {c ch},lookB (Bi' x) c = some ch → lookB (B1 x) c = some ch:=fun {c ch} hc=>subB_get (hsub x) hc
 have hfr:=hfr x
 rw [Bool.and_eq_true] at hfr
 have hc:=(h x).2 ρ1 F1 (Imm C (B1 x) F1 w) w vals (fun b hb=>hb.1) (fun c ch hc=>hM.holds c ch (hB1 hc)) (fun c ch hc b hb=>⟨(hM.own c ch (hB1 hc) b hb).1,fun hI=>hI.2.2 c ch (hB1 hc) hb⟩)
   (fun c c' ch ch' b h1 h2=>hM.disj c c' ch ch' b (hB1 h1) (hB1 h2)) (by rw [hvl,hn,hlen x]) (fun i v y hv hy=>by
     have hi : i < vals.length:=(List.getElem?_eq_some_iff.1 hy).1
     have h1:=hS i
     rw [look_argsK] at h1
     simp only [Nat.zero_le,if_true,Nat.sub_zero,hv,Option.getD_some] at h1
     rw [hts i hi] at h1
     rw [List.getElem?_eq_getElem hi] at hy
     injection hy with hy
     rw [← hy]
     exact h1)
 refine hc.mono ?_
 rintro e w' ⟨y,ρ2,F2,rfl,q1,q2,I',q3,q4,q5,q6,q7,q8⟩
 have hback:=Sat.back (dst:=some n) (hsub x) hfr.1 hfr.2 hn1 hd1 hM hS (fun d hd=>by injection hd with hd; omega) q1 q2 q4 q5 q6 q7 q8
 obtain ⟨r,B2,hle,hrr,hsb,ham⟩:=hout x
 obtain ⟨hn3,hd3,ρ',F',hM',hS'⟩:=hle _ _ _ _ hback
 simp only [Bool.and_eq_true] at ham
 let ρ3 : Nat → Pl:=fun c=>if c ∈ nw then ρ' c else ρ c
 have hρ3 : ∀ c,c ∈ keysB Bi ++ nw → ρ3 c = ρ' c:=fun c hc=>by
   show (if c ∈ nw then ρ' c else ρ c) = ρ' c
   split
   · rfl
   · rename_i hn
     rcases List.mem_append.1 hc with h | h
     · exact (hM'.keep c h).symm
     · exact absurd h hn
 have hxd : DenV ρ' (Imm C B2 F' w') w' res y:=by
   have h1:=hS' n
   rw [look_cons,if_pos rfl] at h1
   have h2 : (a.put (some n) y).tmps.getD n undef = y:=at_put_same (by show n < (vals ++ [undef]).toArray.size; simp [hvl,hn])
   rw [h2] at h1
   exact leV_den hrr h1
 refine ⟨y,ρ3,F',rfl,hM'.fr,fun c hc=>if_neg hc,Imm C B2 F' w',?_,fun b hb=>⟨hb.1,?_⟩,?_,?_,?_,?_⟩
 · intro b hb
   have hnF : ¬ C.F0 b:=fun ⟨c,ch,h1,h2⟩=>(hF c ch h1 b h2).2 hb
   refine ⟨⟨Nat.lt_of_lt_of_le (hI b hb) hM'.fr.size,.inl hb,fun c ch hc hFb=>?_⟩,hM'.fr.block b (hI b hb) hnF⟩
   rcases (hM'.own c ch hc b hFb).2 with h | h
   · exact hnF h
   · have:=hI b hb; exact absurd h.1 (Nat.not_le.2 this)
 · rcases hb.2.1 with h | h | h
   · exact .inl h
   · exact .inr (.inl h)
   · exact .inr (.inr h.1)
 · intro c ch hc
   have hk : c ∈ keysB Bi ++ nw:=by
     have:=List.all_eq_true.1 ham.2 c (keysB_mem.2 ⟨ch,hc⟩)
     simpa only [List.contains_iff_mem] using this
   rw [hρ3 c hk]
   exact Holds.stable (Ext.refl _ _) (fun _ _=>rfl) (Nat.le_refl _) ch (fun d hd=>hρ3 d (Ch.among_has (amongB_get ham.1.2 hc) hd)) (hM'.holds c ch (subB_get hsb hc))
 · intro c ch hc b hb
   have hc':=subB_get hsb hc
   exact ⟨(hM'.own c ch hc' b hb).1,fun hi=>hi.2.2 c ch hc' hb,(hM'.own c ch hc' b hb).2.imp id fun x=>x.1⟩
 · exact fun c c' ch ch' b h1 h2=>hM'.disj c c' ch ch' b (subB_get hsb h1) (subB_get hsb h2)
 · exact DenV.mono (Ext.refl _ _) res y (fun c hc=>hρ3 c (SV.among_has ham.1.1 hc)) hxd
end Go.Proofs.YteoamepgonpdlaaGreat
/-!
  Pointers as data into a pool of small blocks: read, written; a block of one's own put into a map and a pool.
-/
namespace Go.Proofs.YteoamepgonpdlaaGreat
set_option linter.unusedVariables false
set_option linter.unusedSimpArgs false
set_option maxRecDepth 10000
open Go.RowKit Go.Proofs
/-- A block that names none,as an object. -/
def Ob.ch (ch : Ch) (h : ∀ c,ch.has c = false) : Ob where
 R:=fun I F w p=>Holds (fun _=>p) I F w p ch
 stable:=fun I F w I' w' p hh he hF hz=>Holds.stable he hF hz ch (fun c hc=>absurd hc (by rw [h c]; decide)) hh
theorem Ob.ch_of {ch : Ch} (h : ∀ c,ch.has c = false) {ρ : Nat → Pl} {I F : Nat → Prop} {w : World} {p : Pl} (hh : Holds ρ I F w p ch) : (Ob.ch ch h).R I F w p :=
 Holds.stable (Ext.refl _ _) (fun _ _=>rfl) (Nat.le_refl _) ch (fun c hc=>absurd hc (by rw [h c]; decide)) hh
section
variable {P : Program} {ids : List Nat} {K : KL} {B : BL}
theorem opOK_nilAdr {o : Oper} {x : Operand} {b : Nat} (ho : o.op = .nilCheck x) (hx : opv K x = .c (.one (.d (.adr (some b))))) (N : Nat) : OpOK P N ids o K B (.c (.one (.d (.adr (some b))))) ⟨[],[],[]⟩:=by
 have hm : x ∈ o.op.operands:=by rw [ho]; simp [Op.operands]
 refine OpOK.val fun K' B' g1 g2 C ρ F a w hM hS=>?_
 have hv : a.eval x = .pointer (some ⟨b,0,none⟩):=hS.ev ((g1 x hm).trans hx)
 exact ⟨.pointer (some ⟨b,0,none⟩),by simp [execOp,ho,hv],rfl⟩
theorem opOK_fieldAdr {o : Oper} {T : TypeId} {x : Operand} {f b off : Nat} {fs : Array Field} {fd : Field} (ho : o.op = .fieldAddr T x f) (hT : P.underlying T = some (.struct fs)) (hfd : fs[f]? = some fd) (hoff : fd.offset = off) {i : TypeInfo} (hi : P.info? fd.type = some i) (hsz : i.size ≠ 0) (hx : opv K x = .c (.one (.d (.adr (some b))))) (N : Nat) :
   OpOK P N ids o K B (.c (.one (.raw (.pointer (some ⟨b,off,none⟩))))) ⟨[],[],[]⟩:=by
 have hm : x ∈ o.op.operands:=by rw [ho]; simp [Op.operands]
 refine OpOK.val fun K' B' g1 g2 C ρ F a w hM hS=>?_
 have hv : a.eval x = .pointer (some ⟨b,0,none⟩):=hS.ev ((g1 x hm).trans hx)
 have h:=exec_field hv ho hT hfd hoff hi hsz (w:=w)
 rw [Nat.zero_add] at h
 exact ⟨.pointer (some ⟨b,off,none⟩),h,rfl⟩
theorem pool_cell {I : Nat → Prop} {w : World} {L : List (Nat × Ob)} {F : Nat → Prop} {b : Nat} {l : List S1} {h : ∀ c,(Ch.cells l).has c = false} (hP : poolR I w L F) (hL : pget L b = some (Ob.ch (.cells l) h)) {j : Nat} {x : D} (hj : l[j]? = some (.d x)) : ∃ v,w.cell? ⟨b,j,none⟩ = some v ∧ Den I w x v:=by
 obtain ⟨F1,F2,p,k1,k2,k3,k4,k5⟩:=hP.out hL
 obtain ⟨h1,vs,T',h2,h3⟩:=k4
 obtain ⟨v,hv,hd⟩:=DenL.get _ _ h3 j _ hj
 rw [k3] at h2
 exact ⟨v,cell_of h2 hv,hd⟩
theorem opOK_loadRaw {o : Oper} {T : TypeId} {x : Operand} {q b j : Nat} {y : D} {L : List (Nat × Ob)} {l : List S1} {h : ∀ c,(Ch.cells l).has c = false} {d : TypeDesc} (ho : o.op = .load T x) (hT : P.underlying T = some d) (hd : d.isRow = false) (hx : opv K x = .c (.one (.raw (.pointer (some ⟨b,j,none⟩)))))
   (hq : lookB B q = some (.obj (.pool L))) (hL : pget L b = some (Ob.ch (.cells l) h)) (hj : l[j]? = some (.d y)) (N : Nat) : OpOK P N ids o K B (.c (.one (.d y))) ⟨[q],[],[]⟩:=by
 have hm : x ∈ o.op.operands:=by rw [ho]; simp [Op.operands]
 refine OpOK.val fun K' B' g1 g2 C ρ F a w hM hS=>?_
 have hP : poolR (Imm C B' F w) w L (F q):=hM.holds q _ ((g2 q (by simp)).trans hq)
 have hv : a.eval x = .pointer (some ⟨b,j,none⟩):=hS.ev ((g1 x hm).trans hx)
 obtain ⟨v,h1,h2⟩:=pool_cell hP hL hj
 exact ⟨v,exec_load1 ho hv hT hd h1,h2⟩
theorem opOK_storeRaw {o : Oper} {T : TypeId} {x v : Operand} {q b j : Nat} {y : D} {L : List (Nat × Ob)} {l : List S1} {h : ∀ c,(Ch.cells l).has c = false} {h' : ∀ c,(Ch.cells (l.set j (.d y))).has c = false} {i : TypeInfo} (ho : o.op = .store T x v) (hi : P.info? T = some i) (hz : i.size = 1) (hx : opv K x = .c (.one (.raw (.pointer (some ⟨b,j,none⟩)))))
   (hv : opv K v = .c (.one (.d y))) (hq : lookB B q = some (.obj (.pool L))) (hL : pget L b = some (Ob.ch (.cells l) h)) (hj : j < l.length) (h1 : ∀ {I : Nat → Prop} {w : World} {z : Value},Den I w y z → z.cells = List.toArray [z] ∧ z.oneCell' = true) (N : Nat) :
   OpOK P N ids o K B .undef ⟨[q],[],[(q,some (.obj (.pool (pset L b (Ob.ch (.cells (l.set j (.d y))) h')))))]⟩:=by
 have m1 : x ∈ o.op.operands:=by rw [ho]; simp [Op.operands]
 have m2 : v ∈ o.op.operands:=by rw [ho]; simp [Op.operands]
 refine OpOK.turn hq fun K' B' g1 C ρ F a w hM hS hq'=>?_
 have hP : poolR (Imm C B' F w) w L (F q):=hM.holds q _ hq'
 obtain ⟨F1,F2,p,k1,k2,k3,k4,k5⟩:=hP.out hL
 obtain ⟨c1,vs,T',c2,c3⟩:=k4
 have e1 : a.eval x = .pointer (some ⟨b,j,none⟩):=hS.ev ((g1 x m1).trans hx)
 have e2 : Den (Imm C B' F w) w y (a.eval v):=hS.ev ((g1 v m2).trans hv)
 obtain ⟨d1,d2⟩:=h1 e2
 have hlen : vs.length = l.length:=DenL.length _ _ c3
 rw [k3] at c2
 have hrun:=exec_store (P:=P) (o:=o) (ev:=a.eval) (w:=w) (us:=[a.eval v]) ho e1 d1 hi hz c2 (by simp; omega) (fun z hz=>by rw [List.mem_singleton] at hz; rw [hz]; exact d2)
 have hset : (w.setRow b (List.toArray (vs.take j ++ [a.eval v] ++ vs.drop (j + [a.eval v].length)))).heap[b]? = some (.cells (List.toArray (vs.take j ++ [a.eval v] ++ vs.drop (j + [a.eval v].length))) T' (0,0)):=setRow_heap w _ _ _ T' _ c2
 have hb1 : F1 b:=(c1 b).2 k3.symm
 have hFb : F q b:=(k1 b).2 (.inl hb1)
 refine ⟨_,hrun,⟨rfl,rfl,rfl,by simp [World.setRow],fun k _ hk=>setRow_other w _ k _ (fun e=>hk (e ▸ hFb))⟩,fun I hE=>?_⟩
 have hden : ∀ (l : List S1) (vs : List Value) (j : Nat),j < l.length → DenL (fun _=>p) (Imm C B' F w) w l vs → DenL (fun _=>p) (Imm C B' F w) w (l.set j (.d y)) (vs.take j ++ [a.eval v] ++ vs.drop (j + 1)):=fun l=>by
   induction l with
   | nil=>intro vs j hj; simp at hj
   | cons s l ih =>
     rintro _ j hj ⟨u,r,rfl,q1,q2⟩
     match j with
     | 0=>exact ⟨a.eval v,r,by simp,e2,q2⟩
     | j + 1=>exact ⟨u,_,rfl,q1,ih r j (by simpa using hj) q2⟩
 have hF1 : (fun z=>F1 z ∨ F2 z) = F q:=funext fun z=>propext (k1 z).symm
 rw [← hF1]
 exact k5 I _ (Ob.ch (.cells (l.set j (.d y))) h') F1 p hE (by simp [World.setRow]) (fun z hz=>setRow_other w _ z _ (fun e=>k2 b hb1 (e ▸ hz))) k3
   ⟨c1,_,T',by rw [k3]; exact hset,DenL.mono hE _ _ (fun _ _=>rfl) (hden l vs j hj c3)⟩ k2
theorem opS_putPtr {o : Oper} {T kt et : TypeId} {x i v : Operand} {c d q : Nat} (ho : o.op = .mapUpdate T x i v) (hT : P.underlying T = some (.map kt et)) {dk : TypeDesc} (hkt : P.underlying kt = some dk) {ku : U} (hdk : keyD ku dk = true)
   (hx : opv K x = .c (.one (.mp c))) {key : El ku} (hk : keyS ku (opv K i) = some key) (hv : opv K v = .c (.one (.ptr d 0))) {es : List (El ku × El .adr)} {L : List (Nat × Ob)} {l : List S1} {h : ∀ c,(Ch.cells l).has c = false} (hc : lookB B c = some (.map ku .adr es)) (hd : lookB B d = some (.cells l)) (hq : lookB B q = some (.obj (.pool L)))
   (hcd : c ≠ d) (hcq : c ≠ q) (hdq : d ≠ q) (ha : ∀ p ∈ L,p.2.anch) :
   OpS P ids o K B (fun v' e=>∃ b : Nat,b ∉ L.map (·.1) ∧ v' = .undef ∧ e = ⟨[c,d,q],[],[(d,none),(c,some (.map ku .adr (mput (ku:=ku) (vu:=.adr) es key (some b)))),(q,some (.obj (.pool ((b,Ob.ch (.cells l) h) :: L))))]⟩):=by
 rintro N C a w ⟨hn,hdf,ρ,F,hM,hS⟩ hlt Kn Q hK
 obtain ⟨hFc,ents,clock,h4,h5,h6⟩:=hM.holds c _ hc
 have hcell:=hM.holds d _ hd
 have hP : poolR (Imm C B F w) w L (F q):=hM.holds q _ hq
 have e1:=hS.mp hx
 have e2 : a.eval i = keyV ku key:=keyS_den hk (hS.ev rfl)
 have e3 : a.eval v = .pointer (some ⟨(ρ d).blk,0,none⟩):=hS.ev hv
 have e4 : DenE (Imm C B F w) w .adr (some (ρ d).blk : El .adr) (a.eval v):=by
   rw [e3]
   exact ⟨rfl,⟨fun _=>rfl,fun h=>by cases h⟩,rfl⟩
 obtain ⟨es',clock',hr,hm',hB'⟩:=update_run (P:=P) hT hkt hdk h4 h5 h6 key e4
 have hlt2:=(Array.getElem?_eq_some_iff.1 h4).1
 have hFd : F d (ρ d).blk:=(hcell.1 _).2 rfl
 have hnb : (ρ d).blk ∉ L.map (·.1):=fun hb=>hM.disj d q _ _ _ hd hq hdq hFd (poolR_in ha hP hb)
 have hfrB : ∀ y,y ≠ (ρ c).blk → ({ w with heap:=w.heap.setIfInBounds (ρ c).blk (.map (List.toArray es') clock') } : World).heap[y]? = w.heap[y]?:=fun y hy=>Array.getElem?_setIfInBounds_ne (Ne.symm hy)
 have hcb : F c (ρ c).blk:=(hFc _).2 rfl
 have hdc : ∀ y,F d y → y ≠ (ρ c).blk:=fun y hy e=>hM.disj d c _ _ y hd hc (Ne.symm hcd) hy (e ▸ hcb)
 have hqc : ∀ y,F q y → y ≠ (ρ c).blk:=fun y hy e=>hM.disj q c _ _ y hq hc (Ne.symm hcq) hy (e ▸ hcb)
 have hxx : (execOp a.eval o).run P w = .ok .skip { w with heap:=w.heap.setIfInBounds (ρ c).blk (.map (List.toArray es') clock') }:=by simp only [execOp,ho,Sem.run_bind,e1,e2,hr,Result.andThen_ok,Sem.run_pure]
 unfold Oper.wp
 rw [hxx,Oper.upon_skip]
 have key2 : ∀ j ch,lookB ((q,Ch.obj (.pool (((ρ d).blk,Ob.ch (.cells l) h) :: L))) :: (c,.map ku .adr (mput (ku:=ku) (vu:=.adr) es key (some (ρ d).blk))) :: dropB B d) j = some ch → (j = c ∨ j = d ∨ j = q) → (j = q ∧ ch = .obj (.pool (((ρ d).blk,Ob.ch (.cells l) h) :: L))) ∨ (j = c ∧ ch = .map ku .adr (mput (ku:=ku) (vu:=.adr) es key (some (ρ d).blk))):=fun j ch hj hm=>by
   rw [lookB_cons] at hj
   split at hj
   · rename_i e; injection hj with hj; exact .inl ⟨e.symm,hj.symm⟩
   · rename_i e
     rw [lookB_cons] at hj
     split at hj
     · rename_i e2; injection hj with hj; exact .inr ⟨e2.symm,hj.symm⟩
     · rename_i e2
       rcases hm with hm | hm | hm
       · exact absurd hm.symm e2
       · rw [hm,lookB_dropB,if_pos rfl] at hj; cases hj
       · exact absurd hm.symm e
 have eq1 : upd F q (fun y=>F d y ∨ F q y) c = F c:=upd_other _ _ hcq
 obtain ⟨hM',hE⟩:=hM.step (B':=(q,.obj (.pool (((ρ d).blk,Ob.ch (.cells l) h) :: L))) :: (c,.map ku .adr (mput (ku:=ku) (vu:=.adr) es key (some (ρ d).blk))) :: dropB B d) (ρ':=ρ) (F':=upd F q (fun y=>F d y ∨ F q y)) (w':={ w with heap:=w.heap.setIfInBounds (ρ c).blk (.map (List.toArray es') clock') }) (fun j=>j = c ∨ j = d ∨ j = q) (fun _=>False)
   ((map_fr (S:=F c) hcb).mono fun y _ hy=>⟨c,_,hc,.inl rfl,hy⟩)
   (fun j ch hj hm=>by
     rw [lookB_cons,if_neg (fun e=>hm (.inr (.inr e.symm))),lookB_cons,if_neg (fun e=>hm (.inl e.symm)),lookB_dropB,if_neg (fun e=>hm (.inr (.inl e.symm)))] at hj
     exact hj)
   (fun _ _=>rfl) (fun j hm=>upd_other _ _ (fun e=>hm (.inr (.inr e)))) (fun _ _ h=>h) (fun _ h=>h.elim) (fun _ _ _ _ _ _ h=>h)
   (fun j ch hj hm hE=>by
     rcases key2 j ch hj hm with ⟨rfl,rfl⟩ | ⟨rfl,rfl⟩
     · rw [upd_same]
       refine ⟨F d,F j,ρ d,fun _=>Iff.rfl,fun y hy hy'=>hM.disj d j _ _ y hd hq hdq hy hy',rfl,?_,hP.stable hE (by simp) fun y hy=>hfrB y (hqc y hy)⟩
       exact (Ob.ch (.cells l) h).stable _ _ _ _ _ _ (Ob.ch_of h hcell) hE (fun y hy=>hfrB y (hdc y hy)) (by simp)
     · rw [eq1]
       exact ⟨hFc,es',clock',by simp [hlt2],hm'.mono hE,hB'⟩)
   (fun j ch hj hm y hy=>by
     rcases key2 j ch hj hm with ⟨rfl,rfl⟩ | ⟨rfl,rfl⟩
     · rw [upd_same] at hy
       rcases hy with hy | hy
       · exact ⟨by simpa using (hM.own d _ hd y hy).1,.inl ⟨d,_,hd,.inr (.inl rfl),hy⟩⟩
       · exact ⟨by simpa using (hM.own j _ hq y hy).1,.inl ⟨j,_,hq,.inr (.inr rfl),hy⟩⟩
     · rw [eq1] at hy
       exact ⟨by simpa using (hM.own j _ hc y hy).1,.inl ⟨j,_,hc,.inl rfl,hy⟩⟩)
   (fun j j' ch ch' y hj hj' hm hm' hne hy hy'=>by
     rcases key2 j ch hj hm with ⟨rfl,rfl⟩ | ⟨rfl,rfl⟩ <;> rcases key2 j' ch' hj' hm' with ⟨rfl,rfl⟩ | ⟨rfl,rfl⟩
     · exact hne rfl
     · rw [upd_same] at hy
       rw [eq1] at hy'
       rcases hy with hy | hy
       · exact hM.disj d j' _ _ y hd hc (Ne.symm hcd) hy hy'
       · exact hM.disj j j' _ _ y hq hc (Ne.symm hcq) hy hy'
     · rw [upd_same] at hy'
       rw [eq1] at hy
       rcases hy' with hy' | hy'
       · exact hM.disj d j _ _ y hd hc (Ne.symm hcd) hy' hy
       · exact hM.disj j' j _ _ y hq hc (Ne.symm hcq) hy' hy
     · exact hne rfl)
 exact hK _ _ _ _ ⟨_,hnb,rfl,rfl⟩ ⟨put_size.trans hn,put_defers.trans hdf,ρ,_,hM',(hS.mono hE fun _ _ _=>rfl).putO (fun e he=>by rw [hn]; exact hlt e he) rfl⟩
end
end Go.Proofs.YteoamepgonpdlaaGreat
/-!
  Blocks put together into one object, whose places are told by marks; and taken apart again.
-/
namespace Go.Proofs.YteoamepgonpdlaaGreat
set_option linter.unusedVariables false
set_option linter.unusedSimpArgs false
open Go.RowKit
/-- A mark: the block d lies at b. -/
def isAt (b : Nat) (q : Pl) : Ob where
 R:=fun I F w p=>q.blk = b ∧ ∀ x,¬ F x
 stable:=fun _ _ _ _ _ _ h _ _ _=>h
/-- What a block has depends on where it lies by the block's number alone. -/
def BlkOnly (ch : Ch) : Prop:=∀ (ρ ρ' : Nat → Pl) (I F : Nat → Prop) (w : World) (p p' : Pl),(∀ c,ch.has c = true → (ρ' c).blk = (ρ c).blk) → p'.blk = p.blk → Holds ρ I F w p ch → Holds ρ' I F w p' ch
def blkS : S1 → Bool
 | .own _=>false
 | .os _ _ _ _=>false
 | _=>true
theorem DenCaps.blk {ρ ρ' : Nat → Pl} {I : Nat → Prop} {w : World} : ∀ (l : List Cap) (vs : List Value),(∀ c,capsHave c l = true → (ρ' c).blk = (ρ c).blk) → DenCaps ρ I w l vs → DenCaps ρ' I w l vs
 | [],_,_,h=>h
 | .p b o :: l,_,hρ,⟨v,r,e,h1,h2⟩=>⟨v,r,e,(by have e:=hρ b (by simp [capsHave]); simp only [DenCap] at *; rw [e]; exact h1),DenCaps.blk l r (fun c hc=>hρ c (by simp [capsHave,hc])) h2⟩
 | .d x :: l,_,hρ,⟨v,r,e,h1,h2⟩=>⟨v,r,e,h1,DenCaps.blk l r (fun c hc=>hρ c (by simpa [capsHave] using hc)) h2⟩
theorem DenS.blk {ρ ρ' : Nat → Pl} {I : Nat → Prop} {w : World} (s : S1) (v : Value) (hb : blkS s = true) (hρ : ∀ c,s.has c = true → (ρ' c).blk = (ρ c).blk) (h : DenS ρ I w s v) : DenS ρ' I w s v:=by
 cases s with
 | ptr c off =>
   have e:=hρ c (by simp [S1.has,Nat.beq_eq])
   simp only [DenS] at *
   rw [e]; exact h
 | rp c s i off =>
   have e:=hρ c (by simp [S1.has,Nat.beq_eq])
   simp only [DenS] at *
   rw [e]; exact h
 | mp c =>
   have e:=hρ c (by simp [S1.has,Nat.beq_eq])
   simp only [DenS] at *
   rw [e]; exact h
 | clo f l=>obtain ⟨vs,e,h⟩:=h; exact ⟨vs,e,DenCaps.blk l vs hρ h⟩
 | own c=>cases hb
 | os c s off n=>cases hb
 | d x=>exact h
 | el u x off=>exact h
 | nils=>exact h
 | raw u=>exact h
 | any=>trivial
theorem DenL.blk {ρ ρ' : Nat → Pl} {I : Nat → Prop} {w : World} : ∀ (l : List S1) (vs : List Value),l.all blkS = true → (∀ c,hasL c l = true → (ρ' c).blk = (ρ c).blk) → DenL ρ I w l vs → DenL ρ' I w l vs
 | [],_,_,_,h=>h
 | s :: l,_,hb,hρ,⟨v,r,e,h1,h2⟩=>by
   rw [List.all_cons,Bool.and_eq_true] at hb
   exact ⟨v,r,e,DenS.blk s v hb.1 (fun c hc=>hρ c (by simp [hasL,hc])) h1,DenL.blk l r hb.2 (fun c hc=>hρ c (by simp [hasL,hc])) h2⟩
theorem BlkOnly.cells {l : List S1} (hb : l.all blkS = true) : BlkOnly (.cells l):=by
 rintro ρ ρ' I F w p p' hρ hp ⟨h1,vs,T,h2,h3⟩
 exact ⟨fun b=>by rw [hp]; exact h1 b,vs,T,by rw [hp]; exact h2,DenL.blk l vs hb hρ h3⟩
theorem BlkOnly.map {ku vu : U} {es : List (El ku × El vu)} : BlkOnly (.map ku vu es):=by
 rintro ρ ρ' I F w p p' hρ hp ⟨h1,ents,clock,h2,h3,h4⟩
 exact ⟨fun b=>by rw [hp]; exact h1 b,ents,clock,by rw [hp]; exact h2,h3,h4⟩
theorem BlkOnly.pool {L : List (Nat × Ob)} : BlkOnly (.obj (.pool L)):=fun _ _ _ _ _ _ _ _ _ h=>h
theorem BlkOnly.grp {c : Nat} {Bl : BL} (h : ∀ d ch,lookB Bl d = some ch → BlkOnly ch) : BlkOnly (.obj (.grp c Bl)):=by
 rintro ρ0 ρ1 I F w p p' _ hp ⟨ρ,G,h1,h2,h3,h4⟩
 have hb : ∀ d,(upd ρ c p' d).blk = (ρ d).blk:=fun d=>by
   by_cases e : d = c
   · subst e; rw [upd_same,hp,h1]
   · rw [upd_other _ _ e]
 exact ⟨upd ρ c p',G,upd_same ..,fun d ch hd=>h d ch hd ρ (upd ρ c p') _ _ _ (ρ d) (upd ρ c p' d) (fun e _=>hb e) (hb d) (h2 d ch hd),h3,h4⟩
def blkB : BL → Prop
 | []=>True
 | (_,ch) :: Bl=>BlkOnly ch ∧ blkB Bl
theorem blkB_get : ∀ {Bl : BL},blkB Bl → ∀ d ch,lookB Bl d = some ch → BlkOnly ch
 | [],_,d,ch,hd=>by cases hd
 | (e,x) :: Bl,h,d,ch,hd=>by
   rw [lookB_cons] at hd
   split at hd
   · injection hd with hd; subst hd; exact h.1
   · exact blkB_get h.2 d ch hd
/-- Blocks at places that are told. -/
def grpXR (Bl : BL) (bs : Nat → Nat) (I F : Nat → Prop) (w : World) : Prop :=
 ∃ (ρ : Nat → Pl) (G : Nat → Nat → Prop),(∀ d ch,lookB Bl d = some ch → (ρ d).blk = bs d) ∧ (∀ d ch,lookB Bl d = some ch → Holds ρ I (G d) w (ρ d) ch) ∧
   (∀ d d' ch ch' b,lookB Bl d = some ch → lookB Bl d' = some ch' → d ≠ d' → G d b → ¬ G d' b) ∧ ∀ b,F b ↔ ∃ d ch,lookB Bl d = some ch ∧ G d b
def Ob.grpX (Bl : BL) (bs : Nat → Nat) : Ob where
 R:=fun I F w _=>grpXR Bl bs I F w
 stable:=fun I F w I' w' p ⟨ρ,G,h0,h2,h3,h4⟩ he hF hz=>⟨ρ,G,h0,fun d ch hd=>Holds.stable he (fun b hb=>hF b ((h4 b).2 ⟨d,ch,hd,hb⟩)) hz ch (fun _ _=>rfl) (h2 d ch hd),h3,h4⟩
section
variable {ids : List Nat} {K : KL} {B : BL}
theorem LeX.mark (d m : Nat) (hm : freshB ids K B m = true) (hne : d ≠ m) : LeX ids K B (fun _ : Nat=>K) (fun b=>(m,.dep d (isAt b)) :: B):=by
 rintro N C a w ⟨hn,hd,ρ,F,hM,hS⟩
 have hfr:=fresh_of hm
 obtain ⟨hM',hE⟩:=hM.make (ch:=.dep d (isAt (ρ d).blk)) (w':=w) hm (Below.refl _ _) ⟨0,none,0,0⟩ (fun _=>False) (fun _ h=>h.elim) (fun I _ _=>by
   show (isAt (ρ d).blk (upd ρ m _ d)).R I _ w _
   rw [upd_other _ _ hne]
   exact ⟨rfl,fun _ h=>h⟩)
 exact ⟨(ρ d).blk,hn,hd,_,_,hM',hS.mono hE fun s c hc=>upd_other _ _ (fun e=>by subst e; rw [hfr.1 s] at hc; cases hc)⟩
/-- A number that nobody uses is laid at b. -/
theorem Le.place (d m b : Nat) (hd : freshB ids K B d = true) (hm : freshB ids K B m = true) (hne : d ≠ m) : Le ids K B K ((m,.dep d (isAt b)) :: B):=by
 rintro N C a w ⟨hn,hdf,ρ,F,hM,hS⟩
 have f1:=fresh_of hd
 have f2:=fresh_of hm
 obtain ⟨hM',hE⟩:=hM.step (B':=(m,.dep d (isAt b)) :: B) (ρ':=upd ρ d ⟨b,none,0,0⟩) (F':=upd F m fun _=>False) (w':=w) (fun c=>c = m ∨ c = d) (fun c=>c = d) (Fr.refl _ _)
   (fun c ch hc hm=>by
     rw [lookB_cons,if_neg (fun e=>hm (.inl e.symm))] at hc
     exact hc)
   (fun c hc=>upd_other _ _ hc) (fun c hc=>upd_other _ _ (fun e=>hc (.inl e))) (fun c hc e=>f1.2.2.2 (e ▸ hc)) (fun c hc=>.inr hc)
   (fun c ch hc _ j hj e=>by subst e; rw [f1.2.2.1 c ch hc] at hj; cases hj)
   (fun c ch hc hm hE=>by
     rw [lookB_cons] at hc
     split at hc
     · rename_i e
       subst e
       injection hc with hc
       subst hc
       rw [upd_same]
       show (isAt b (upd ρ d _ d)).R _ _ w _
       rw [upd_same]
       exact ⟨rfl,fun _ h=>h⟩
     · rename_i e
       rcases hm with hm | hm
       · exact absurd hm.symm e
       · rw [hm,f1.2.1] at hc; cases hc)
   (fun c ch hc hm x hx=>by
     rw [lookB_cons] at hc
     split at hc
     · rename_i e
       subst e
       rw [upd_same] at hx
       exact hx.elim
     · rename_i e
       rcases hm with hm | hm
       · exact absurd hm.symm e
       · rw [hm,f1.2.1] at hc; cases hc)
   (fun c c' ch ch' x hc hc' hm hm' hne' hx=>by
     have key : ∀ c ch,lookB ((m,Ch.dep d (isAt b)) :: B) c = some ch → (c = m ∨ c = d) → c = m:=fun c ch hc hm=>by
       rcases hm with hm | hm
       · exact hm
       · rw [lookB_cons,if_neg (fun e=>hne (hm.symm.trans e.symm)),hm,f1.2.1] at hc
         cases hc
     exact absurd ((key c ch hc hm).trans (key c' ch' hc' hm').symm) hne')
 exact ⟨hn,hdf,_,_,hM',hS.mono hE fun s c hc=>upd_other _ _ (fun e=>by subst e; rw [f1.1 s] at hc; cases hc)⟩
/-- The marks of these blocks are there. -/
def marksB (B : BL) (ms bs : Nat → Nat) : BL → Prop
 | []=>True
 | (d,_) :: Bl=>lookB B (ms d) = some (.dep d (isAt (bs d))) ∧ marksB B ms bs Bl
theorem marksB_get {ms bs : Nat → Nat} : ∀ {Bl : BL},marksB B ms bs Bl → ∀ {d ch},lookB Bl d = some ch → lookB B (ms d) = some (.dep d (isAt (bs d)))
 | [],_,d,ch,hd=>by cases hd
 | (e,x) :: Bl,h,d,ch,hd=>by
   rw [lookB_cons] at hd
   split at hd
   · rename_i e; subst e; exact h.1
   · exact marksB_get h.2 hd
/-- Blocks with marks become one object. -/
theorem Le.closeX (g : Nat) (Bl : BL) (ms bs : Nat → Nat) (hB : subB B Bl) (hm : marksB B ms bs Bl) (hg : lookB B g = none) : Le ids K B K ((g,.obj (.grpX Bl bs)) :: dropBs (keysB Bl) B):=by
 rintro N C a w ⟨hn,hd,ρ,F,hM,hS⟩
 have hl : ∀ {d ch},lookB Bl d = some ch → lookB B d = some ch:=fun {d ch} h=>subB_get hB h
 have hgk : g ∉ keysB Bl:=fun h=>by obtain ⟨ch,h⟩:=keysB_mem.1 h; rw [hl h] at hg; cases hg
 have key : ∀ d ch,lookB ((g,Ch.obj (.grpX Bl bs)) :: dropBs (keysB Bl) B) d = some ch → (d = g ∨ d ∈ keysB Bl) → d = g ∧ ch = .obj (.grpX Bl bs):=fun d ch hd hm=>by
   rw [lookB_cons] at hd
   split at hd
   · rename_i e; injection hd with hd; exact ⟨e.symm,hd.symm⟩
   · rename_i e
     rcases hm with hm | hm
     · exact absurd hm.symm e
     · rw [lookB_dropBs,if_pos hm] at hd; cases hd
 obtain ⟨hM',hE⟩:=hM.step (B':=(g,.obj (.grpX Bl bs)) :: dropBs (keysB Bl) B) (ρ':=ρ) (F':=upd F g (fun x=>∃ d ch,lookB Bl d = some ch ∧ F d x)) (w':=w) (fun d=>d = g ∨ d ∈ keysB Bl) (fun _=>False) (Fr.refl _ _)
   (fun d ch hd hm=>by
     rw [lookB_cons,if_neg (fun e=>hm (.inl e.symm)),lookB_dropBs,if_neg (fun h=>hm (.inr h))] at hd
     exact hd)
   (fun _ _=>rfl) (fun d hm=>upd_other _ _ (fun e=>hm (.inl e))) (fun _ _ h=>h) (fun _ h=>h.elim) (fun _ _ _ _ _ _ h=>h)
   (fun d ch hd hm' hE=>by
     obtain ⟨rfl,rfl⟩:=key d ch hd hm'
     rw [upd_same]
     refine ⟨ρ,F,fun d ch h=>?_,fun d ch h=>Holds.stable hE (fun _ _=>rfl) (Nat.le_refl _) ch (fun _ _=>rfl) (hM.holds d ch (hl h)),fun d d' ch ch' b h h' hne=>hM.disj d d' ch ch' b (hl h) (hl h') hne,fun b=>Iff.rfl⟩
     exact (hM.holds _ _ (marksB_get hm h)).1)
   (fun d ch hd hm' x hx=>by
     obtain ⟨rfl,rfl⟩:=key d ch hd hm'
     rw [upd_same] at hx
     obtain ⟨d',ch',h1,h2⟩:=hx
     exact ⟨(hM.own d' ch' (hl h1) x h2).1,.inl ⟨d',ch',hl h1,.inr (keysB_mem.2 ⟨ch',h1⟩),h2⟩⟩)
   (fun d d' ch ch' x hd hd' hm1 hm2 hne=>absurd ((key d ch hd hm1).1.trans (key d' ch' hd' hm2).1.symm) hne)
 exact ⟨hn,hd,ρ,_,hM',hS.mono hE fun _ _ _=>rfl⟩
/-- .. and blocks again,where the marks are. -/
theorem Le.openX (g : Nat) (Bl : BL) (ms bs : Nat → Nat) (hg : lookB B g = some (.obj (.grpX Bl bs))) (hm : marksB B ms bs Bl) (hk : ((keysB Bl).all fun d=>(lookB B d).isNone) = true) (ha : amongB (keysB Bl) Bl = true) (hbo : ∀ d ch,lookB Bl d = some ch → BlkOnly ch) : Le ids K B K (Bl ++ dropB B g):=by
 rintro N C a w ⟨hn,hd,ρ,F,hM,hS⟩
 obtain ⟨ρg,G,h1,h2,h3,h4⟩ : grpXR Bl bs (Imm C B F w) (F g) w:=hM.holds g _ hg
 have hnone : ∀ {d ch},lookB Bl d = some ch → lookB B d = none:=fun {d ch} h=>by
   have:=List.all_eq_true.1 hk d (keysB_mem.2 ⟨ch,h⟩)
   simpa using this
 have hgk : lookB Bl g = none:=by
   cases e : lookB Bl g with
   | none=>rfl
   | some ch=>rw [hnone e] at hg; cases hg
 have hblk : ∀ {d ch},lookB Bl d = some ch → (ρ d).blk = (ρg d).blk:=fun {d ch} h=>((hM.holds _ _ (marksB_get hm h)).1 : (ρ d).blk = bs d).trans (h1 d ch h).symm
 have lk : ∀ d ch,lookB (Bl ++ dropB B g) d = some ch → lookB Bl d = some ch ∨ (lookB Bl d = none ∧ d ≠ g ∧ lookB B d = some ch):=fun d ch h=>by
   rw [lookB_app] at h
   cases e : lookB Bl d with
   | some x=>rw [e] at h; exact .inl h
   | none =>
     rw [e,lookB_dropB] at h
     simp only at h
     split at h
     · cases h
     · rename_i hne; exact .inr ⟨rfl,fun e=>hne e.symm,h⟩
 let F2 : Nat → Nat → Prop:=fun d=>if (lookB Bl d).isSome = true then G d else F d
 have e1 : ∀ {d ch},lookB Bl d = some ch → F2 d = G d:=fun {d ch} h=>if_pos (by rw [h]; rfl)
 have e2 : ∀ {d},lookB Bl d = none → F2 d = F d:=fun {d} h=>if_neg (by rw [h]; decide)
 obtain ⟨hM',hE⟩:=hM.step (B':=Bl ++ dropB B g) (ρ':=ρ) (F':=F2) (w':=w) (fun d=>d = g ∨ (lookB Bl d).isSome = true) (fun _=>False) (Fr.refl _ _)
   (fun d ch hd hm=>by
     rcases lk d ch hd with h | ⟨_,_,h⟩
     · exact absurd (.inr (by rw [h]; rfl)) hm
     · exact h)
   (fun _ _=>rfl) (fun d hm=>e2 (by cases e : lookB Bl d with
     | none=>rfl
     | some x=>exact absurd (.inr (by rw [e]; rfl)) hm)) (fun _ _ h=>h) (fun _ h=>h.elim) (fun _ _ _ _ _ _ h=>h)
   (fun d ch hd hm hE=>by
     rcases lk d ch hd with h | ⟨h,hne,h'⟩
     · rw [e1 h]
       refine hbo d ch h ρg ρ _ _ w (ρg d) (ρ d) (fun c hc=>?_) (hblk h) (Holds.stable hE (fun _ _=>rfl) (Nat.le_refl _) ch (fun _ _=>rfl) (h2 d ch h))
       have:=Ch.among_has (amongB_get ha h) hc
       obtain ⟨ch',h'⟩:=keysB_mem.1 this
       exact hblk h'
     · rcases hm with hm | hm
       · exact absurd hm hne
       · rw [h] at hm; cases hm)
   (fun d ch hd hm x hx=>by
     rcases lk d ch hd with h | ⟨h,hne,h'⟩
     · rw [e1 h] at hx
       have : F g x:=(h4 x).2 ⟨d,ch,h,hx⟩
       exact ⟨(hM.own g _ hg x this).1,.inl ⟨g,_,hg,.inl rfl,this⟩⟩
     · rcases hm with hm | hm
       · exact absurd hm hne
       · rw [h] at hm; cases hm)
   (fun d d' ch ch' x hd hd' hm hm' hne hx hx'=>by
     rcases lk d ch hd with h | ⟨h,hn,_⟩
     · rcases lk d' ch' hd' with h' | ⟨h',hn',_⟩
       · rw [e1 h] at hx
         rw [e1 h'] at hx'
         exact h3 d d' ch ch' x h h' hne hx hx'
       · rcases hm' with hm' | hm'
         · exact absurd hm' hn'
         · rw [h'] at hm'; cases hm'
     · rcases hm with hm | hm
       · exact absurd hm hn
       · rw [h] at hm; cases hm)
 exact ⟨hn,hd,ρ,_,hM',hS.mono hE fun _ _ _=>rfl⟩
/-! ### an object that lies at a place,and one that wants it there -/
def Ob.tie (am : Nat) (o : Ob) (q : Pl) : Ob where
 R:=fun I F w p=>q.blk = am ∧ o.R I F w p
 stable:=fun I F w I' w' p h he hF hz=>⟨h.1,o.stable I F w I' w' p h.2 he hF hz⟩
theorem Le.tie (g c am : Nat) {o oi : Ob} (hg : lookB B g = some (.obj o)) (hc : lookB B c = some (.obj (oi.at am))) (hne : g ≠ c) : Le ids K B K ((c,.obj oi) :: (g,.dep c (.tie am o)) :: B):=by
 rintro N C a w ⟨hn,hd,ρ,F,hM,hS⟩
 have hi : (ρ c).blk = am:=(hM.holds c _ hc).1
 obtain ⟨hM1,hE1⟩:=hM.turn (w':=w) (ch:=.dep c (.tie am o)) hg (Fr.refl _ _) fun I hI=>⟨hi,o.stable _ _ _ _ _ _ (hM.holds g _ hg) hI (fun _ _=>rfl) (Nat.le_refl _)⟩
 have hc1 : lookB ((g,Ch.dep c (.tie am o)) :: B) c = some (.obj (oi.at am)):=by rw [lookB_cons,if_neg hne]; exact hc
 obtain ⟨hM2,hE2⟩:=hM1.turn (w':=w) (ch:=.obj oi) hc1 (Fr.refl _ _) fun I hI=>oi.stable _ _ _ _ _ _ (hM1.holds c _ hc1).2 hI (fun _ _=>rfl) (Nat.le_refl _)
 exact ⟨hn,hd,ρ,F,hM2,hS.mono (hE1.trans hE2) fun _ _ _=>rfl⟩
theorem Le.untie (g c am : Nat) {o oi : Ob} (hg : lookB B g = some (.dep c (.tie am o))) (hc : lookB B c = some (.obj oi)) (hne : g ≠ c) : Le ids K B K ((c,.obj (oi.at am)) :: (g,.obj o) :: B):=by
 rintro N C a w ⟨hn,hd,ρ,F,hM,hS⟩
 have hh : (Ob.tie am o (ρ c)).R (Imm C B F w) (F g) w (ρ g):=hM.holds g _ hg
 obtain ⟨hM1,hE1⟩:=hM.turn (w':=w) (ch:=.obj o) hg (Fr.refl _ _) fun I hI=>o.stable _ _ _ _ _ _ hh.2 hI (fun _ _=>rfl) (Nat.le_refl _)
 have hc1 : lookB ((g,Ch.obj o) :: B) c = some (.obj oi):=by rw [lookB_cons,if_neg hne]; exact hc
 obtain ⟨hM2,hE2⟩:=hM1.turn (w':=w) (ch:=.obj (oi.at am)) hc1 (Fr.refl _ _) fun I hI=>⟨hh.1,oi.stable _ _ _ _ _ _ (hM1.holds c _ hc1) hI (fun _ _=>rfl) (Nat.le_refl _)⟩
 exact ⟨hn,hd,ρ,F,hM2,hS.mono (hE1.trans hE2) fun _ _ _=>rfl⟩
/-- .. and where it is tied to is marked. -/
theorem Le.markT (g c m am : Nat) {o : Ob} (hg : lookB B g = some (.dep c (.tie am o))) (hm : freshB ids K B m = true) (hne : c ≠ m) : Le ids K B K ((m,.dep c (isAt am)) :: B):=by
 rintro N C a w ⟨hn,hd,ρ,F,hM,hS⟩
 have hfr:=fresh_of hm
 have hh : (Ob.tie am o (ρ c)).R (Imm C B F w) (F g) w (ρ g):=hM.holds g _ hg
 obtain ⟨hM',hE⟩:=hM.make (ch:=.dep c (isAt am)) (w':=w) hm (Below.refl _ _) ⟨0,none,0,0⟩ (fun _=>False) (fun _ h=>h.elim) (fun I _ _=>by
   show (isAt am (upd ρ m _ c)).R I _ w _
   rw [upd_other _ _ hne]
   exact ⟨hh.1,fun _ h=>h⟩)
 exact ⟨hn,hd,_,_,hM',hS.mono hE fun s c hc=>upd_other _ _ (fun e=>by subst e; rw [hfr.1 s] at hc; cases hc)⟩
theorem Le.loose (g c am : Nat) {o : Ob} (hg : lookB B g = some (.dep c (.tie am o))) : Le ids K B K ((g,.obj o) :: B):=by
 rintro N C a w ⟨hn,hd,ρ,F,hM,hS⟩
 have hh : (Ob.tie am o (ρ c)).R (Imm C B F w) (F g) w (ρ g):=hM.holds g _ hg
 obtain ⟨hM1,hE1⟩:=hM.turn (w':=w) (ch:=.obj o) hg (Fr.refl _ _) fun I hI=>o.stable _ _ _ _ _ _ hh.2 hI (fun _ _=>rfl) (Nat.le_refl _)
 exact ⟨hn,hd,ρ,F,hM1,hS.mono hE1 fun _ _ _=>rfl⟩
theorem Le.tieM (g c m am : Nat) {o : Ob} (hg : lookB B g = some (.obj o)) (hm : lookB B m = some (.dep c (isAt am))) : Le ids K B K ((g,.dep c (.tie am o)) :: B):=by
 rintro N C a w ⟨hn,hd,ρ,F,hM,hS⟩
 have hi : (ρ c).blk = am:=(hM.holds m _ hm).1
 obtain ⟨hM1,hE1⟩:=hM.turn (w':=w) (ch:=.dep c (.tie am o)) hg (Fr.refl _ _) fun I hI=>⟨hi,o.stable _ _ _ _ _ _ (hM.holds g _ hg) hI (fun _ _=>rfl) (Nat.le_refl _)⟩
 exact ⟨hn,hd,ρ,F,hM1,hS.mono hE1 fun _ _ _=>rfl⟩
theorem Le.forget (c b : Nat) {o : Ob} (hc : lookB B c = some (.obj (o.at b))) : Le ids K B K ((c,.obj o) :: B):=by
 rintro N C a w ⟨hn,hd,ρ,F,hM,hS⟩
 obtain ⟨hM1,hE1⟩:=hM.turn (w':=w) (ch:=.obj o) hc (Fr.refl _ _) fun I hI=>o.stable _ _ _ _ _ _ (hM.holds c _ hc).2 hI (fun _ _=>rfl) (Nat.le_refl _)
 exact ⟨hn,hd,ρ,F,hM1,hS.mono hE1 fun _ _ _=>rfl⟩
/-! ### slots that say addresses,by marks -/
theorem mark_blk {N : Nat} {C : Ctx} {a : Act} {w : World} {ρ : Nat → Pl} {F : Nat → Nat → Prop} (hM : Mem ids C B ρ F w) {m d b : Nat} (hm : lookB B m = some (.dep d (isAt b))) : (ρ d).blk = b:=(hM.holds m _ hm).1
theorem Le.ofAdr (s d m b : Nat) (hs : look K s = .c (.one (.d (.adr (some b))))) (hm : lookB B m = some (.dep d (isAt b))) : Le ids K B ((s,.c (.one (.ptr d 0))) :: K) B:=by
 rintro N C a w ⟨hn,hd,ρ,F,hM,hS⟩
 refine ⟨hn,hd,ρ,F,hM,fun t=>?_⟩
 rw [look_cons]
 split
 · rename_i e
   subst e
   have h:=hS s
   rw [hs] at h
   have e:=mark_blk (N:=N) (a:=a) hM hm
   rw [← e] at h
   exact h
 · exact hS t
theorem Le.ofAt (s d b : Nat) {o : Ob} (hs : look K s = .c (.one (.d (.adr (some b))))) (hd : lookB B d = some (.obj (o.at b))) : Le ids K B ((s,.c (.one (.ptr d 0))) :: K) B:=by
 rintro N C a w ⟨hn,hdf,ρ,F,hM,hS⟩
 refine ⟨hn,hdf,ρ,F,hM,fun t=>?_⟩
 rw [look_cons]
 split
 · rename_i e
   subst e
   have h:=hS s
   rw [hs] at h
   have e : (ρ d).blk = b:=(hM.holds d _ hd).1
   rw [← e] at h
   exact h
 · exact hS t
/-- A function with two pointers to marked blocks. -/
theorem Le.toFn (s f d1 d2 m1 m2 b1 b2 : Nat) (hs : look K s = .c (.one (.clo f [.p d1 0,.p d2 0]))) (h1 : lookB B m1 = some (.dep d1 (isAt b1))) (h2 : lookB B m2 = some (.dep d2 (isAt b2))) : Le ids K B ((s,.c (.one (.d (.fn (f,[b1,b2]))))) :: K) B:=by
 rintro N C a w ⟨hn,hd,ρ,F,hM,hS⟩
 refine ⟨hn,hd,ρ,F,hM,fun t=>?_⟩
 rw [look_cons]
 split
 · rename_i e
   subst e
   have h:=hS s
   rw [hs] at h
   obtain ⟨vs,e,v1,r1,e1,g1,v2,r2,e2,g2,g3⟩:=h
   have k1:=mark_blk (N:=N) (a:=a) hM h1
   have k2:=mark_blk (N:=N) (a:=a) hM h2
   have g1 : v1 = .pointer (some ⟨(ρ d1).blk,0,none⟩):=g1
   have g2 : v2 = .pointer (some ⟨(ρ d2).blk,0,none⟩):=g2
   have g3 : r2 = []:=g3
   show a.tmps.getD s undef = fnV (f,[b1,b2])
   rw [e,e1,e2,g1,g2,g3,k1,k2]
   rfl
 · exact hS t
end
end Go.Proofs.YteoamepgonpdlaaGreat
/-!
  One of a pool, taken out; and put back, turned.
-/
namespace Go.Proofs.YteoamepgonpdlaaGreat
set_option linter.unusedVariables false
set_option linter.unusedSimpArgs false
open Go.RowKit
def pdel : List (Nat × Ob) → Nat → List (Nat × Ob)
 | [],_=>[]
 | (a,o) :: L,b=>if a = b then L else (a,o) :: pdel L b
theorem or_swap {a b c : Prop} : (a ∨ b ∨ c) ↔ (b ∨ a ∨ c):=⟨fun h=>by
 rcases h with h | h | h
 · exact .inr (.inl h)
 · exact .inl h
 · exact .inr (.inr h),fun h=>by
 rcases h with h | h | h
 · exact .inr (.inl h)
 · exact .inl h
 · exact .inr (.inr h)⟩
theorem poolR.del {I : Nat → Prop} {w : World} {b : Nat} {o : Ob} : ∀ {L : List (Nat × Ob)} {F : Nat → Prop},pget L b = some o → poolR I w L F → ∃ (F1 F2 : Nat → Prop) (p : Pl),(∀ x,F x ↔ F1 x ∨ F2 x) ∧ (∀ x,F1 x → ¬ F2 x) ∧ p.blk = b ∧ o.R I F1 w p ∧ poolR I w (pdel L b) F2
 | [],F,h,_=>by cases h
 | (a,q) :: L,F,h,⟨G1,G2,p,h1,h2,h3,h4,h5⟩=>by
   unfold pget at h
   unfold pdel
   split at h
   · rename_i e
     injection h with h
     subst h
     rw [if_pos e]
     exact ⟨G1,G2,p,h1,h2,h3.trans e,h4,h5⟩
   · rename_i e
     rw [if_neg e]
     obtain ⟨F1,F2,p1,g1,g2,g3,g4,g5⟩:=poolR.del h h5
     refine ⟨F1,fun x=>G1 x ∨ F2 x,p1,fun x=>by rw [h1,g1]; exact or_swap,fun x hx hy=>?_,g3,g4,G1,F2,p,fun x=>Iff.rfl,fun x hx hy=>h2 x hx ((g1 x).2 (.inr hy)),h3,h4,g5⟩
     rcases hy with hy | hy
     · exact h2 x hy ((g1 x).2 (.inl hx))
     · exact g2 x hx hy
theorem poolR.ins {I : Nat → Prop} {w : World} {b : Nat} {o o' : Ob} {F1 : Nat → Prop} {p : Pl} (ho : o'.R I F1 w p) (hp : p.blk = b) : ∀ {L : List (Nat × Ob)} {F : Nat → Prop},pget L b = some o → poolR I w (pdel L b) F → (∀ x,F1 x → ¬ F x) → poolR I w (pset L b o') (fun x=>F1 x ∨ F x)
 | [],F,h,_,_=>by cases h
 | (a,q) :: L,F,h,hd,hdj=>by
   unfold pget at h
   unfold pdel at hd
   unfold pset
   split at h
   · rename_i e
     rw [if_pos e] at hd ⊢
     exact ⟨F1,F,p,fun x=>Iff.rfl,hdj,hp.trans e.symm,ho,hd⟩
   · rename_i e
     rw [if_neg e] at hd ⊢
     obtain ⟨G1,G2,r,h1,h2,h3,h4,h5⟩:=hd
     refine ⟨G1,fun x=>F1 x ∨ G2 x,r,fun x=>by
       show (F1 x ∨ F x) ↔ (G1 x ∨ (F1 x ∨ G2 x))
       rw [h1]; exact or_swap,fun x hx hy=>?_,h3,h4,poolR.ins ho hp h h5 fun x hx hy=>hdj x hx ((h1 x).2 (.inr hy))⟩
     rcases hy with hy | hy
     · exact hdj x hy ((h1 x).2 (.inl hx))
     · exact h2 x hx hy
theorem pset_self {o : Ob} {b : Nat} : ∀ {L : List (Nat × Ob)},pget L b = some o → pset L b o = L
 | [],h=>by cases h
 | (a,q) :: L,h=>by
   unfold pget at h
   unfold pset
   split at h
   · rename_i e
     injection h with h
     rw [if_pos e,h]
   · rename_i e
     rw [if_neg e,pset_self h]
section
variable {ids : List Nat} {K : KL} {B : BL}
theorem Le.takeOut (q c b : Nat) {o : Ob} {L : List (Nat × Ob)} (hq : lookB B q = some (.obj (.pool L))) (hL : pget L b = some o) (hc : freshB ids K B c = true) : Le ids K B K ((c,.obj (o.at b)) :: (q,.obj (.pool (pdel L b))) :: B):=by
 rintro N C a w ⟨hn,hd,ρ,F,hM,hS⟩
 have f:=fresh_of hc
 obtain ⟨F1,F2,p,h1,h2,h3,h4,h5⟩:=poolR.del hL (hM.holds q _ hq : poolR _ w L (F q))
 obtain ⟨hM',hE⟩:=hM.split (K:=K) (ch1:=.obj (.pool (pdel L b))) (ch2:=.obj (o.at b)) hq hc p F2 F1 (fun x hx=>(h1 x).2 (.inr hx)) (fun x hx=>(h1 x).2 (.inl hx)) (fun x hx hy=>h2 x hy hx)
   (fun I hI=>h5.stable hI (Nat.le_refl _) (fun _ _=>rfl)) (fun I hI=>⟨h3,o.stable _ _ _ _ _ _ h4 hI (fun _ _=>rfl) (Nat.le_refl _)⟩)
 exact ⟨hn,hd,_,_,hM',hS.mono hE fun s d hd=>upd_other _ _ (fun e=>by subst e; rw [f.1 s] at hd; cases hd)⟩
theorem Le.putAt (q c b : Nat) {o o' : Ob} {L : List (Nat × Ob)} (hq : lookB B q = some (.obj (.pool (pdel L b)))) (hc : lookB B c = some (.obj (o'.at b))) (hL : pget L b = some o) (hne : q ≠ c) : Le ids K B K ((q,.obj (.pool (pset L b o'))) :: dropB B c):=by
 rintro N C a w ⟨hn,hd,ρ,F,hM,hS⟩
 have hP : poolR (Imm C B F w) w (pdel L b) (F q):=hM.holds q _ hq
 have hO : (ρ c).blk = b ∧ o'.R (Imm C B F w) (F c) w (ρ c):=hM.holds c _ hc
 obtain ⟨hM',hE⟩:=hM.join (w':=w) (ch:=.obj (.pool (pset L b o'))) hq hc hne (fun x=>F c x ∨ F q x) (fun x hx=>hx.symm) (Fr.refl _ _) fun I hI =>
   (poolR.ins hO.2 hO.1 hL hP (fun x hx hy=>hM.disj c q _ _ x hc hq (Ne.symm hne) hx hy)).stable hI (Nat.le_refl _) fun _ _=>rfl
 exact ⟨hn,hd,ρ,_,hM',hS.mono hE fun _ _ _=>rfl⟩
/-- .. of blocks that lie where they are told to. -/
theorem Le.putX (q c b : Nat) {o : Ob} {Bl : BL} {bs : Nat → Nat} {L : List (Nat × Ob)} (hq : lookB B q = some (.obj (.pool (pdel L b)))) (hc : lookB B c = some (.obj (.grpX Bl bs))) (hL : pget L b = some o) (hne : q ≠ c) : Le ids K B K ((q,.obj (.pool (pset L b (.grpX Bl bs)))) :: dropB B c):=by
 rintro N C a w ⟨hn,hd,ρ,F,hM,hS⟩
 have hP : poolR (Imm C B F w) w (pdel L b) (F q):=hM.holds q _ hq
 have hO : grpXR Bl bs (Imm C B F w) (F c) w:=hM.holds c _ hc
 obtain ⟨hM',hE⟩:=hM.join (w':=w) (ch:=.obj (.pool (pset L b (.grpX Bl bs)))) hq hc hne (fun x=>F c x ∨ F q x) (fun x hx=>hx.symm) (Fr.refl _ _) fun I hI =>
   (poolR.ins (o':=.grpX Bl bs) (p:=⟨b,none,0,0⟩) hO rfl hL hP (fun x hx hy=>hM.disj c q _ _ x hc hq (Ne.symm hne) hx hy)).stable hI (Nat.le_refl _) fun _ _=>rfl
 exact ⟨hn,hd,ρ,_,hM',hS.mono hE fun _ _ _=>rfl⟩
/-- A contract on blocks that are as they were,as one on the pool that has them,where they are told to be. -/
theorem Fn.poolX {P : Program} {f : FuncId} {c q am : Nat} {args : List SV} {res : SV} {Bl : BL} {bs : Nat → Nat} {M : List (Nat × Ob)} (h : Fn P f (.c (.one (.ptr c 0)) :: args) Bl [] res Bl) (hM : pget M am = some (.grpX Bl bs)) (hc : bs c = am) (hcB : (lookB Bl c).isSome = true) (ha : (args.all fun v=>v.among []) = true) (hr : res.among [] = true) :
   Fn P f (.c (.one (.d (.adr (some am)))) :: args) [(q,.obj (.pool M))] [] res [(q,.obj (.pool M))]:=by
 obtain ⟨hcall,h⟩:=h
 refine ⟨hcall,fun ρ F I w vals hI hH hF hdj hlen hden=>?_⟩
 have hq : lookB [(q,Ch.obj (.pool M))] q = some (.obj (.pool M)):=by rw [lookB_cons,if_pos rfl]
 have hq1 : ∀ {d ch},lookB [(q,Ch.obj (.pool M))] d = some ch → d = q ∧ ch = .obj (.pool M):=fun {d ch} hd=>by
   rw [lookB_cons] at hd
   split at hd
   · rename_i e; injection hd with hd; exact ⟨e.symm,hd.symm⟩
   · cases hd
 have hP : poolR I w M (F q):=hH q _ hq
 obtain ⟨F1,F2,p,k1,k2,k3,k4,k5⟩:=hP.out hM
 obtain ⟨ρg,G,g1,g2,g3,g4⟩ : grpXR Bl bs I F1 w:=k4
 have hno : ∀ {v : SV},v.among [] = true → ∀ d,v.has d = true → ∀ (ρ ρ' : Nat → Pl),ρ' d = ρ d:=fun {v} hv d hd _ _=>absurd (SV.among_has hv hd) List.not_mem_nil
 have hGF : ∀ y,(∃ d ch,lookB Bl d = some ch ∧ G d y) → ∃ d ch,lookB [(q,Ch.obj (.pool M))] d = some ch ∧ F d y:=fun y hy=>⟨q,_,hq,(k1 y).2 (.inl ((g4 y).2 hy))⟩
 obtain ⟨chc,hcc⟩:=Option.isSome_iff_exists.1 hcB
 match vals,hlen with
 | v0 :: vals,hlen =>
   have hv0 : v0 = .pointer (some ⟨am,0,none⟩):=hden 0 _ v0 rfl rfl
   refine (h ρg G I w (v0 :: vals) hI g2 (fun d ch hd b hb=>hF q _ hq b ((k1 b).2 (.inl ((g4 b).2 ⟨d,ch,hd,hb⟩)))) g3 (by simpa using hlen) ?_).mono ?_
   · intro i v x hv hx
     match i with
     | 0 =>
       simp only [List.getElem?_cons_zero,Option.some.injEq] at hv hx
       subst hv hx
       show v0 = .pointer (some ⟨(ρg c).blk,0,none⟩)
       rw [g1 c chc hcc,hc]
       exact hv0
     | i + 1 =>
       have hv' : args[i]? = some v:=by simpa using hv
       have:=List.all_eq_true.1 ha v (List.mem_of_getElem? hv')
       exact DenV.mono (Ext.refl _ _) v x (fun d hd=>hno this d hd _ _) (hden (i + 1) v x (by simpa using hv) hx)
   · rintro e w' ⟨x,ρ',F',rfl,hfr,hρ,I',he1,he2,hH',hO,hDj,hden'⟩
     have hF2 : ∀ y,F2 y → ¬ ∃ d ch,lookB Bl d = some ch ∧ G d y:=fun y hy hG=>k2 y ((g4 y).2 hG) hy
     have hF2s : ∀ y,F2 y → y < w.heap.size ∧ ¬ I y:=fun y hy=>hF q _ hq y ((k1 y).2 (.inr hy))
     have hold : ∀ y,F2 y → w'.heap[y]? = w.heap[y]?:=fun y hy=>hfr.block y (hF2s y hy).1 (hF2 y hy)
     have hnot : ∀ y,(∃ d ch,lookB Bl d = some ch ∧ F' d y) → ¬ F2 y:=by
       rintro y ⟨d,ch,hd,hy⟩ h2y
       rcases (hO d ch hd y hy).2.2 with h | h
       · exact hF2 y h2y h
       · have:=(hF2s y h2y).1; omega
     have hnew:=k5 I' w' (.grpX Bl bs) (fun y=>∃ d ch,lookB Bl d = some ch ∧ F' d y) p he1 hfr.size hold k3
       ⟨ρ',F',fun d ch hd=>by rw [hρ d List.not_mem_nil]; exact g1 d ch hd,hH',hDj,fun b=>Iff.rfl⟩ hnot
     rw [pset_self hM] at hnew
     refine ⟨x,ρ,fun d=>if d = q then (fun y=>(∃ d ch,lookB Bl d = some ch ∧ F' d y) ∨ F2 y) else F' d,rfl,hfr.mono fun y _ hy=>hGF y hy,fun d _=>rfl,I',he1,fun y hy=>⟨(he2 y hy).1,?_⟩,?_,?_,?_,?_⟩
     · rcases (he2 y hy).2 with h | h | h
       · exact .inl h
       · exact .inr (.inl (hGF y h))
       · exact .inr (.inr h)
     · intro d ch hd
       obtain ⟨rfl,rfl⟩:=hq1 hd
       simp only [if_true]
       exact hnew
     · intro d ch hd y hy
       obtain ⟨rfl,rfl⟩:=hq1 hd
       simp only [if_true] at hy
       rcases hy with ⟨d',ch',hd',hy⟩ | hy
       · obtain ⟨a1,a2,a3⟩:=hO d' ch' hd' y hy
         exact ⟨a1,a2,a3.imp (hGF y) id⟩
       · refine ⟨Nat.lt_of_lt_of_le (hF2s y hy).1 hfr.size,fun hi=>?_,.inl ⟨d,_,hq,(k1 y).2 (.inr hy)⟩⟩
         rcases (he2 y hi).2 with h | h | h
         · exact (hF2s y hy).2 h
         · exact hF2 y hy h
         · have:=(hF2s y hy).1; omega
     · intro d d' ch ch' y hd hd' hne
       exact absurd ((hq1 hd).1.trans (hq1 hd').1.symm) hne
     · exact DenV.mono (Ext.refl _ _) res x (fun d hd=>hno hr d hd _ _) hden'
end
end Go.Proofs.YteoamepgonpdlaaGreat
