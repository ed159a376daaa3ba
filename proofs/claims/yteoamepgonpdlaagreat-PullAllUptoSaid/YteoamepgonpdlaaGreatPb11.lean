/-
Part 11 of the proof that stands in YteoamepgonpdlaaGreatPbRow, with what it needs from the parts ahead; the parts of this text: Cl, Cm, Names, Pure.
-/
import Derived.Test.YteoamepgonpdlaaGreatProg
import Derived.Test.YteoamepgonpdlaaGreatPb10
/-!
  Chains, laid open: known, below, Image, Backing, Depth.
-/
namespace Go.Proofs.YteoamepgonpdlaaGreat
set_option linter.unusedVariables false
set_option linter.unusedSimpArgs false
set_option maxRecDepth 10000
open Go.RowKit Go.Proofs
/-- A disk: its name,its backing one's,where its block lies,its image; where that one's blocks lie,if that is told. -/
structure Dsk where
 nm : List UInt8
 back : List UInt8
 ad : Nat
 am : Nat
 im : ImS
 pin : Option (Nat → Nat)
/-- An image in the pool. -/
def imX (d : Dsk) : Ob:=match d.pin with
 | none=>imO d.im
 | some bs=>.grpX (imB d.im) (fun c=>cond (Nat.beq c 1001) d.am (bs c))
@[reducible] def mkE (d : Dsk) : El .str × El .adr:=((d.nm : El .str),(some d.ad : El .adr))
def chE (L : List Dsk) : List (El .str × El .adr):=L.map mkE
@[reducible] def dskL (am : Nat) (back : List UInt8) : List S1:=[.d (.adr (some am)),.d (.str back)]
def dskO (am : Nat) (back : List UInt8) : Ob:=Ob.ch (.cells (dskL am back)) (fun _=>rfl)
def chD (L : List Dsk) : List (Nat × Ob):=L.map fun d=>(d.ad,dskO d.am d.back)
def chM (L : List Dsk) : List (Nat × Ob):=L.map fun d=>(d.am,imX d)
@[reducible] def chC (bits room : Int) : List S1:=[.d (.int .i64 bits),.d (.int .i64 room),.mp 1002]
@[reducible] def chB (bits room : Int) (L : List Dsk) : BL:=[(1001,.cells (chC bits room)),(1002,.map .str .adr (chE L)),(1003,.obj (.pool (chD L))),(1004,.obj (.pool (chM L)))]
def dk (L : List Dsk) (nm : List UInt8) : Option Dsk:=L.find? fun d=>decide (d.nm = nm)
theorem dk_get {L : List Dsk} {nm : List UInt8} {d : Dsk} (h : dk L nm = some d) : d ∈ L ∧ d.nm = nm:=⟨List.mem_of_find?_eq_some h,by have:=List.find?_some h; simpa using this⟩
theorem cget (nm : List UInt8) : ∀ L : List Dsk,(mget (ku:=.str) (vu:=.adr) (chE L) nm).getD (dflt .adr) = ((dk L nm).map (·.ad) : Option Nat)
 | []=>rfl
 | d :: L=>by
   have ih:=cget nm L
   show (mget (ku:=.str) (vu:=.adr) (mkE d :: chE L) nm).getD (dflt .adr) = _
   rw [show dk (d :: L) nm = if decide (d.nm = nm) = true then some d else dk L nm by unfold dk; rw [List.find?_cons]; split <;> rename_i h <;> rw [h] <;> rfl]
   rw [show mget (ku:=.str) (vu:=.adr) (mkE d :: chE L) nm = match eqKey .str (nm : El .str) (mkE d).1 with | true=>some (mkE d).2 | false=>mget (ku:=.str) (vu:=.adr) (chE L) nm from rfl]
   by_cases e : d.nm = nm
   · rw [show eqKey .str (nm : El .str) (mkE d).1 = true from (eqKey_str _ _).2 e.symm,show decide (d.nm = nm) = true from decide_eq_true e]
     rfl
   · rw [show eqKey .str (nm : El .str) (mkE d).1 = false from eqKey_ne (ku:=.str) eqKey_str (fun h=>e h.symm),show decide (d.nm = nm) = false from decide_eq_false e]
     exact ih
theorem pget_map {f : Dsk → Nat × Ob} : ∀ {L : List Dsk},(L.map fun d=>(f d).1).Nodup → ∀ {d : Dsk},d ∈ L → pget (L.map f) (f d).1 = some (f d).2
 | [],_,d,h=>by cases h
 | e :: L,hn,d,h=>by
   rw [List.map_cons] at hn
   obtain ⟨n1,n2⟩:=List.nodup_cons.1 hn
   rw [List.map_cons]
   unfold pget
   rcases List.mem_cons.1 h with rfl | h
   · rw [if_pos rfl]
   · rw [if_neg (fun e=>n1 (by rw [e]; exact List.mem_map_of_mem (f:=fun d=>(f d).1) h))]
     exact pget_map n2 h
/-- A chain that nobody broke,as far as its blocks go. -/
structure ChN (L : List Dsk) : Prop where
 nms : (L.map (·.nm)).Nodup
 ads : (L.map (·.ad)).Nodup
 ams : (L.map (·.am)).Nodup
theorem ChN.D {L : List Dsk} (h : ChN L) {d : Dsk} (hd : d ∈ L) : pget (chD L) d.ad = some (dskO d.am d.back):=pget_map (f:=fun d=>(d.ad,dskO d.am d.back)) h.ads hd
theorem ChN.M {L : List Dsk} (h : ChN L) {d : Dsk} (hd : d ∈ L) : pget (chM L) d.am = some (imX d):=pget_map (f:=fun d=>(d.am,imX d)) h.ams hd
theorem infAdr : (Tryz.prog.info? 49).map (·.size) = some 1:=by kernel_rfl
theorem infStr : (Tryz.prog.info? 9).map (·.size) = some 1:=by kernel_rfl
theorem known_fn (bits room : Int) (L : List Dsk) (b : List UInt8) : Fn Tryz.prog 88 [vP 1001,vS b] (chB bits room L) [] (vB (decide (b = []) || (dk L b).isSome)) (chB bits room L):=by
 have hg:=cget b L
 refine Fn.of tblOK [] _ _ _ _ _ Tryz.func88 rfl rfl (by kernel_rfl) (by kernel_rfl) rfl (drawOK tblOK) rfl ?_
 refine ⟨fun h=>?_,fun h=>?_⟩
 · have h : b = []:=of_decide_eq_true h
   exact ⟨_,_,_,Le.refl _ _,rfl,(show true = _ by rw [decide_eq_true h]; rfl),⟨rfl,rfl,rfl,rfl,trivial⟩,rfl⟩
 · have h : ¬ b = []:=of_decide_eq_false h
   refine ⟨fun b' h'=>?_,fun h'=>?_⟩
   · have h' : (mget (ku:=.str) (vu:=.adr) (chE L) b).getD (dflt .adr) = some b':=h'
     rw [hg] at h'
     exact ⟨_,_,_,Le.refl _ _,rfl,(show true = _ by rw [decide_eq_false h]; cases e : dk L b with
       | none=>rw [e] at h'; cases h'
       | some d=>rfl),⟨rfl,rfl,rfl,rfl,trivial⟩,rfl⟩
   · have h' : (mget (ku:=.str) (vu:=.adr) (chE L) b).getD (dflt .adr) = none:=h'
     rw [hg] at h'
     exact ⟨_,_,_,Le.refl _ _,rfl,(show false = _ by rw [decide_eq_false h]; cases e : dk L b with
       | none=>rfl
       | some d=>rw [e] at h'; cases h'),⟨rfl,rfl,rfl,rfl,trivial⟩,rfl⟩
theorem cget_some {L : List Dsk} {nm : List UInt8} {b' : Nat} (h : (mget (ku:=.str) (vu:=.adr) (chE L) nm).getD (dflt .adr) = some b') : ∃ d,dk L nm = some d ∧ d.ad = b':=by
 rw [cget] at h
 cases e : dk L nm with
 | none=>rw [e] at h; cases h
 | some d =>
   rw [e] at h
   injection h with h
   exact ⟨d,rfl,h⟩
theorem adrV_eq {x : Option Nat} {b : Nat} (h : x = some b) : SV.c (SC.one (S1.d (D.adr x))) = .c (.one (.d (.adr (some b)))):=by rw [h]
theorem image_fn (bits room : Int) (L : List Dsk) (hN : ChN L) (nm : List UInt8) (d : Dsk) (hd : dk L nm = some d) : Fn Tryz.prog 15 [vP 1001,vS nm] (chB bits room L) [] (vAd d.am) (chB bits room L):=by
 obtain ⟨ia,ia1,ia2⟩:=inf_of infAdr
 have hL:=hN.D (dk_get hd).1
 have h' : (mget (ku:=.str) (vu:=.adr) (chE L) nm).getD (dflt .adr) = some d.ad:=by rw [cget,hd]; rfl
 refine Fn.of tblOK [] _ _ _ _ _ Tryz.func15 rfl rfl (by kernel_rfl) (by kernel_rfl) rfl (drawOK tblOK) rfl ?_
 refine ⟨fun b' hb=>?_,fun hb=>absurd (show (mget (ku:=.str) (vu:=.adr) (chE L) nm).getD (dflt .adr) = none from hb) (by rw [h']; intro h; cases h)⟩
 refine ⟨_,_,fun N=>opOK_nilAdr (b:=d.ad) rfl (by exact adrV_eq h') N,rfl,?_⟩
 refine ⟨_,_,fun N=>opOK_fieldAdr rfl Tryz.underlying130 rfl rfl ia1 (by rw [ia2]; decide) rfl N,rfl,?_⟩
 refine ⟨_,_,fun N=>opOK_loadRaw (q:=1003) rfl Tryz.underlying49 rfl rfl rfl hL rfl N,rfl,?_⟩
 exact ⟨_,_,_,Le.refl _ _,rfl,rfl,⟨rfl,rfl,rfl,rfl,trivial⟩,rfl⟩
theorem image_no (bits room : Int) (L : List Dsk) (nm : List UInt8) (hd : dk L nm = none) : Fn Tryz.prog 15 [vP 1001,vS nm] (chB bits room L) [] (.c vNilP) (chB bits room L):=by
 have h' : (mget (ku:=.str) (vu:=.adr) (chE L) nm).getD (dflt .adr) = none:=by rw [cget,hd]; rfl
 refine Fn.of tblOK [] _ _ _ _ _ Tryz.func15 rfl rfl (by kernel_rfl) (by kernel_rfl) rfl (drawOK tblOK) rfl ?_
 refine ⟨fun b' hb=>absurd (show (mget (ku:=.str) (vu:=.adr) (chE L) nm).getD (dflt .adr) = some b' from hb) (by rw [h']; intro h; cases h),fun _=>?_⟩
 exact ⟨_,_,_,Le.refl _ _,rfl,rfl,⟨rfl,rfl,rfl,rfl,trivial⟩,rfl⟩
theorem backing_fn (bits room : Int) (L : List Dsk) (hN : ChN L) (nm : List UInt8) (d : Dsk) (hd : dk L nm = some d) : Fn Tryz.prog 66 [vP 1001,vS nm] (chB bits room L) [] (.tup [.one (.d (.str d.back)),vErr 0]) (chB bits room L):=by
 obtain ⟨ia,ia1,ia2⟩:=inf_of infStr
 have hL:=hN.D (dk_get hd).1
 have h' : (mget (ku:=.str) (vu:=.adr) (chE L) nm).getD (dflt .adr) = some d.ad:=by rw [cget,hd]; rfl
 refine Fn.of tblOK [] _ _ _ _ _ Tryz.func66 rfl rfl (by kernel_rfl) (by kernel_rfl) rfl (drawOK tblOK) rfl ?_
 refine ⟨fun b' hb=>?_,fun hb=>absurd (show (mget (ku:=.str) (vu:=.adr) (chE L) nm).getD (dflt .adr) = none from hb) (by rw [h']; intro h; cases h)⟩
 refine ⟨_,_,fun N=>opOK_nilAdr (b:=d.ad) rfl (by exact adrV_eq h') N,rfl,?_⟩
 refine ⟨_,_,fun N=>opOK_fieldAdr rfl Tryz.underlying130 rfl rfl ia1 (by rw [ia2]; decide) rfl N,rfl,?_⟩
 refine ⟨_,_,fun N=>opOK_loadRaw (q:=1003) rfl Tryz.underlying9 rfl rfl rfl hL rfl N,rfl,?_⟩
 exact ⟨_,_,_,Le.refl _ _,rfl,⟨rfl,rfl,trivial⟩,⟨rfl,rfl,rfl,rfl,trivial⟩,rfl⟩
theorem backing_no (bits room : Int) (L : List Dsk) (nm : List UInt8) (hd : dk L nm = none) : Fn Tryz.prog 66 [vP 1001,vS nm] (chB bits room L) [] (.tup [.one (.d (.str [])),vErr 140]) (chB bits room L):=by
 have h' : (mget (ku:=.str) (vu:=.adr) (chE L) nm).getD (dflt .adr) = none:=by rw [cget,hd]; rfl
 refine Fn.of tblOK [] _ _ _ _ _ Tryz.func66 rfl rfl (by kernel_rfl) (by kernel_rfl) rfl (drawOK tblOK) rfl ?_
 refine ⟨fun b' hb=>absurd (show (mget (ku:=.str) (vu:=.adr) (chE L) nm).getD (dflt .adr) = some b' from hb) (by rw [h']; intro h; cases h),fun _=>?_⟩
 exact ⟨_,_,_,Le.refl _ _,rfl,⟨rfl,rfl,trivial⟩,⟨rfl,rfl,rfl,rfl,trivial⟩,rfl⟩
/-! ### what a disk stands on -/
/-- From here down there are k steps. -/
inductive Dn (L : List Dsk) : List UInt8 → Nat → Prop where
 | gone {nm} : dk L nm = none → Dn L nm 0
 | base {nm d} : dk L nm = some d → d.back = [] → Dn L nm 0
 | step {nm d k} : dk L nm = some d → d.back ≠ [] → Dn L d.back k → Dn L nm (k + 1)
/-- .. the names on the way,k of them. -/
def bl (L : List Dsk) : Nat → List UInt8 → List (List UInt8)
 | 0,_=>[]
 | k + 1,nm=>match dk L nm with
   | none=>[]
   | some d=>d.back :: bl L k d.back
/-- Where one is behind j steps. -/
def downTo (L : List Dsk) : Nat → List UInt8 → List UInt8
 | 0,nm=>nm
 | j + 1,nm=>match dk L nm with
   | none=>nm
   | some d=>downTo L j d.back
theorem downTo_succ (L : List Dsk) : ∀ (j : Nat) (nm : List UInt8),downTo L (j + 1) nm = match dk L (downTo L j nm) with
   | none=>downTo L j nm
   | some d=>d.back
 | 0,nm=>by
   show (match dk L nm with | none=>nm | some d=>d.back) = _
   rfl
 | j + 1,nm=>by
   show (match dk L nm with | none=>nm | some d=>downTo L (j + 1) d.back) = _
   cases e : dk L nm with
   | none =>
     simp only
     rw [show downTo L (j + 1) nm = nm by show (match dk L nm with | none=>nm | some d=>downTo L j d.back) = nm; rw [e]]
     rw [e]
   | some d =>
     simp only
     rw [downTo_succ L j d.back]
     rw [show downTo L (j + 1) nm = downTo L j d.back by show (match dk L nm with | none=>nm | some d=>downTo L j d.back) = _; rw [e]]
theorem dn_at {L : List Dsk} : ∀ {k : Nat} {nm : List UInt8},Dn L nm k → ∀ j,j ≤ k → Dn L (downTo L j nm) (k - j)
 | _,_,h,0,_=>h
 | k + 1,nm,.step (d:=d) h1 h2 h3,j + 1,hj=>by
   rw [show downTo L (j + 1) nm = downTo L j d.back by show (match dk L nm with | none=>nm | some d=>downTo L j d.back) = _; rw [h1]]
   rw [Nat.add_sub_add_right]
   exact dn_at h3 j (by omega)
 | 0,_,_,j + 1,hj=>absurd hj (by omega)
theorem bl_len {L : List Dsk} {nm : List UInt8} {k : Nat} (h : Dn L nm k) : (bl L k nm).length = k:=by
 induction h with
 | gone _=>rfl
 | base _ _=>rfl
 | step h1 h2 _ ih =>
   unfold bl
   rw [h1]
   simp only [List.length_cons,ih]
theorem bl_take {L : List Dsk} : ∀ {k : Nat} {nm : List UInt8},Dn L nm k → ∀ j,j < k → (bl L k nm).take (j + 1) = (bl L k nm).take j ++ [downTo L (j + 1) nm]
 | k + 1,nm,.step (d:=d) h1 h2 h3,0,_=>by
   unfold bl
   rw [h1]
   simp only [List.take_succ_cons,List.take_zero,List.nil_append]
   rw [show downTo L 1 nm = d.back by show (match dk L nm with | none=>nm | some d=>downTo L 0 d.back) = _; rw [h1]; rfl]
 | k + 1,nm,.step (d:=d) h1 h2 h3,j + 1,hj=>by
   have ih:=bl_take h3 j (by omega)
   unfold bl
   rw [h1]
   simp only [List.take_succ_cons,List.cons_append]
   rw [ih]
   rw [show downTo L (j + 1 + 1) nm = downTo L (j + 1) d.back by show (match dk L nm with | none=>nm | some d=>downTo L (j + 1) d.back) = _; rw [h1]]
 | 0,_,_,j,hj=>absurd hj (by omega)
@[reducible] def vAdrO (x : Option Nat) : SV:=.c (.one (.d (.adr x)))
@[reducible] def blK (L : List Dsk) (nm : List UInt8) (j : Nat) : KL:=[(0,vP 1001),(5,vOwn 5002),(6,vAdrO ((dk L (downTo L j nm)).map (·.ad)))]
@[reducible] def blB (bits room : Int) (L : List Dsk) (k : Nat) (nm : List UInt8) (j : Nat) : BL:=chB bits room L ++ [(5002,.row 9 .str ((bl L k nm).take j))]
@[reducible] def blK2 (L : List Dsk) (nm : List UInt8) (j : Nat) : KL:=[(0,vP 1001),(5,vOwn 35),(6,vAdrO ((dk L (downTo L j nm)).map (·.ad)))]
@[reducible] def blB2 (bits room : Int) (L : List Dsk) (k : Nat) (nm : List UInt8) (j : Nat) : BL:=chB bits room L ++ [(35,.row 9 .str ((bl L k nm).take j))]
theorem below_fn (bits room : Int) (L : List Dsk) (hN : ChN L) (nm : List UInt8) (k : Nat) (hk : Dn L nm k) (hkl : k ≤ 1000000) : Fn Tryz.prog 69 [vP 1001,vS nm] (chB bits room L) [] (vL .str (bl L k nm)) (chB bits room L):=by
 obtain ⟨ia,ia1,ia2⟩:=inf_of infStr
 have hbl:=bl_len hk
 refine Fn.of tblOK [2,7] _ _ _ _ _ Tryz.func69 rfl rfl (by kernel_rfl) (by kernel_rfl) rfl (drawOK tblOK) rfl ?_
 show TrQ _ _ _ _ _ _ _
 refine TrQ.go tblOK (drawOK tblOK) [7] (by kernel_rfl) (Le.refl _ _) ?_
 show TrQ _ _ _ _ _ _ _
 refine TrQ.loop tblOK (drawOK tblOK) [6,4,7] (by kernel_rfl) (X:=Nat) (blK L nm) (fun j=>blB bits room L k nm j) (fun j=>j ≤ k) (fun j=>k - j) 0 (Nat.zero_le _) ?_ ?_
 · refine (Le.nil 5 5002 9 .str rfl rfl).trans (Le.sub ⟨rfl,rfl,?_,trivial⟩ ⟨rfl,rfl,rfl,rfl,rfl,trivial⟩)
   exact cget nm L
 intro j hj
 have hat:=dn_at hk j hj
 have hout : k - j = 0 → (bl L k nm).take j = bl L k nm:=fun h=>List.take_of_length_le (by omega)
 refine ⟨fun b' h'=>?_,fun h'=>?_⟩
 · obtain ⟨d,hd,rfl⟩ : ∃ d,dk L (downTo L j nm) = some d ∧ d.ad = b':=by
     have h' : (dk L (downTo L j nm)).map (·.ad) = some b':=h'
     cases e : dk L (downTo L j nm) with
     | none=>rw [e] at h'; cases h'
     | some d=>rw [e] at h'; injection h' with h'; exact ⟨d,rfl,h'⟩
   have hL:=hN.D (dk_get hd).1
   have hx : (dk L (downTo L j nm)).map (·.ad) = some d.ad:=by rw [hd]; rfl
   refine ⟨_,_,fun N=>opOK_nilAdr (b:=d.ad) rfl (by exact adrV_eq hx) N,rfl,?_⟩
   refine ⟨_,_,fun N=>opOK_fieldAdr rfl Tryz.underlying130 rfl rfl ia1 (by rw [ia2]; decide) rfl N,rfl,?_⟩
   refine ⟨_,_,fun N=>opOK_loadRaw (q:=1003) rfl Tryz.underlying9 rfl rfl rfl hL rfl N,rfl,?_⟩
   refine ⟨fun hb=>?_,fun hb=>?_⟩
   · have hb : d.back = []:=of_decide_eq_true hb
     have h0 : k - j = 0:=by
       generalize k - j = m at hat
       cases hat with
       | gone h=>rfl
       | base _ _=>rfl
       | step h1 h2 _=>rw [hd] at h1; injection h1 with h1; rw [← h1] at h2; exact absurd hb h2
     have ht:=hout h0
     show TrQ _ _ _ _ _ _ _
     refine TrQ.go tblOK (drawOK tblOK) [] (by kernel_rfl) (Le.refl _ _) ?_
     exact ⟨_,_,_,Le.frz 5002 rfl,rfl,ht,⟨rfl,rfl,rfl,rfl,trivial⟩,rfl⟩
   · have hb : ¬ d.back = []:=of_decide_eq_false hb
     have hjk : j < k:=by
       rcases Nat.lt_or_ge j k with h | h
       · exact h
       · exfalso
         have h0 : k - j = 0:=by omega
         rw [h0] at hat
         cases hat with
         | gone h=>rw [hd] at h; cases h
         | base h1 h2=>rw [hd] at h1; injection h1 with h1; rw [← h1] at h2; exact hb h2
     have hnext : downTo L (j + 1) nm = d.back:=by rw [downTo_succ,hd]
     have htk:=bl_take hk j hjk
     rw [hnext] at htk
     have hll : ((bl L k nm).take j).length + 1 ≤ 4294967296:=by rw [List.length_take]; omega
     show TrQ _ _ _ _ _ _ _
     refine TrQ.go tblOK (drawOK tblOK) [4] (by kernel_rfl) (Le.sub (K':=blK L nm j) (B':=blB bits room L k nm j) ⟨rfl,rfl,rfl,trivial⟩ ⟨rfl,rfl,rfl,rfl,rfl,trivial⟩) ?_
     refine ⟨_,_,fun N=>opOK_nilAdr (b:=d.ad) rfl (by exact adrV_eq hx) N,rfl,?_⟩
     refine ⟨_,_,fun N=>opOK_fieldAdr rfl Tryz.underlying130 rfl rfl ia1 (by rw [ia2]; decide) rfl N,rfl,?_⟩
     refine ⟨_,_,fun N=>opOK_loadRaw (q:=1003) rfl Tryz.underlying9 rfl rfl rfl hL rfl N,rfl,?_⟩
     refine ⟨hll,rfl,?_⟩
     show TrQ _ _ _ _ _ _ _
     refine TrQ.go tblOK (drawOK tblOK) [] (by kernel_rfl) (Le.sub (K':=blK2 L nm j) (B':=blB2 bits room L k nm (j + 1)) ⟨rfl,rfl,rfl,trivial⟩ ⟨rfl,rfl,rfl,rfl,congrArg (fun l : List (List UInt8)=>some (Ch.row 9 .str l)) htk.symm,trivial⟩) ?_
     refine ⟨_,_,fun N=>opOK_nilAdr (b:=d.ad) rfl (by exact adrV_eq hx) N,rfl,?_⟩
     refine ⟨_,_,fun N=>opOK_fieldAdr rfl Tryz.underlying130 rfl rfl ia1 (by rw [ia2]; decide) rfl N,rfl,?_⟩
     refine ⟨_,_,fun N=>opOK_loadRaw (q:=1003) rfl Tryz.underlying9 rfl rfl rfl hL rfl N,rfl,?_⟩
     refine ⟨rfl,?_⟩
     refine ⟨j + 1,by omega,by omega,(Le.ren 35 5002 rfl).trans (Le.sub ⟨rfl,rfl,?_,trivial⟩ ⟨rfl,rfl,rfl,rfl,rfl,trivial⟩)⟩
     rw [hnext]
     exact cget d.back L
 · have hd : dk L (downTo L j nm) = none:=by
     have h' : (dk L (downTo L j nm)).map (·.ad) = none:=h'
     cases e : dk L (downTo L j nm) with
     | none=>rfl
     | some d=>rw [e] at h'; cases h'
   have h0 : k - j = 0:=by
     generalize k - j = m at hat
     cases hat with
     | gone h=>rfl
     | base _ _=>rfl
     | step h1 h2 _=>rw [hd] at h1; cases h1
   have ht:=hout h0
   show TrQ _ _ _ _ _ _ _
   refine TrQ.go tblOK (drawOK tblOK) [] (by kernel_rfl) (Le.refl _ _) ?_
   exact ⟨_,_,_,Le.frz 5002 rfl,rfl,ht,⟨rfl,rfl,rfl,rfl,trivial⟩,rfl⟩
/-! Chains: what is seen of a cluster: seen,Cluster,Depth. -/
/-- A contract on an image that is as it was,as one on an image of the pool. -/
theorem imFn {f : FuncId} {args : List SV} {res : SV} {d : Dsk} {M : List (Nat × Ob)} (h : Fn Tryz.prog f (vP 1001 :: args) (imB d.im) [] res (imB d.im)) (hM : pget M d.am = some (imX d)) (h1 : closeIn 1001 [1002,1003,1004] (vP 1001 :: args) (imB d.im) [] [] [] = true) (h2 : closeOut 1001 (hidOf [1002,1003,1004] [] []) res (imB d.im) [] = true)
   (h3 : (args.all fun v=>v.among []) = true) (h4 : res.among [] = true) : Fn Tryz.prog f (vAd d.am :: args) [(1004,.obj (.pool M))] [] res [(1004,.obj (.pool M))]:=by
 have hno : ∀ {v : SV},v.among [] = true → v.has 1001 = false:=fun {v} hv=>by
   cases e : v.has 1001 with
   | false=>rfl
   | true=>exact absurd (SV.among_has hv e) List.not_mem_nil
 cases hp : d.pin with
 | none =>
   rw [show imX d = imO d.im by unfold imX; rw [hp]] at hM
   have hc : Fn Tryz.prog f (vP 1001 :: args) [(1001,.obj (imO d.im))] [] res [(1001,.obj (imO d.im))]:=Fn.close (Bl:=imB d.im) (Bl':=imB d.im) (Bi:=[]) (Bo:=[]) [1002,1003,1004] (by simpa using h) (fun _ _ _ _ h=>h) (fun _ _ _ _ h=>h) h1 h2
   have:=(FnX.pool (c:=1001) (q:=1004) (b:=d.am) (args:=args) (Bi:=[]) (nw:=[]) (X:=Unit) (res:=fun _=>res) (Bo:=fun _=>[]) (o:=imO d.im) (o':=fun _=>imO d.im) (L:=M) hc.x hM (List.all_eq_true.2 fun v hv=>by rw [hno (List.all_eq_true.1 h3 v hv)]; rfl) ⟨rfl,rfl⟩ rfl (fun _=>by rw [hno h4]; rfl)).fn
   rw [pset_self hM] at this
   exact this
 | some bs =>
   rw [show imX d = .grpX (imB d.im) (fun c=>cond (Nat.beq c 1001) d.am (bs c)) by unfold imX; rw [hp]] at hM
   exact Fn.poolX (c:=1001) h hM rfl rfl h3 h4
theorem clus_take {s : ImS} (hO : ImOK s) {k : Nat} (hk : k < s.t.length) : ird s (k * 2 ^ s.bits) (2 ^ s.bits) = clus s k none:=by
 have hcl:=clus_len hO hk none
 have hp:=pow_le8 hO.bits
 have hW : wid s = 16 * 2 ^ s.bits:=rfl
 have e0 : 16 * (k * 2 ^ s.bits) / wid s = k:=by
   rw [hW,show 16 * (k * 2 ^ s.bits) = k * (16 * 2 ^ s.bits) by rw [Nat.mul_left_comm],Nat.mul_div_cancel _ (by omega)]
 have em : 16 * (k * 2 ^ s.bits) = k * wid s:=by rw [hW,Nat.mul_left_comm]
 have e1 : pcN (wid s) (k * 2 ^ s.bits) (2 ^ s.bits) = 1:=by
   have h0:=pcN_iff (a:=k * 2 ^ s.bits) (l:=2 ^ s.bits) (k:=0) (wid_isW hO.bits)
   have h1:=pcN_iff (a:=k * 2 ^ s.bits) (l:=2 ^ s.bits) (k:=1) (wid_isW hO.bits)
   rw [e0,Nat.mul_add,em] at h0 h1
   rw [Nat.add_zero] at h0
   rw [Nat.succ_mul] at h1
   have a0:=h0.1 ⟨by omega,by omega⟩
   have a1 : ¬ 1 < pcN (wid s) (k * 2 ^ s.bits) (2 ^ s.bits):=fun h=>by
     have:=(h1.2 h).2
     omega
   omega
 unfold ird
 rw [e1]
 show [] ++ pcRd s (k * 2 ^ s.bits) (2 ^ s.bits) 0 = _
 rw [List.nil_append]
 unfold pcRd
 have ec : (pce (wid s) (k * 2 ^ s.bits) (2 ^ s.bits) 0).c = k:=by unfold pce; simp only [e0,Nat.add_zero]
 have ea : (pce (wid s) (k * 2 ^ s.bits) (2 ^ s.bits) 0).a = 0:=by
   show 16 * (k * 2 ^ s.bits) - (16 * (k * 2 ^ s.bits) / wid s + 0) * wid s = 0
   rw [e0,Nat.add_zero,em,Nat.sub_self]
 have eb : (pce (wid s) (k * 2 ^ s.bits) (2 ^ s.bits) 0).b = wid s:=by
   show min (16 * (k * 2 ^ s.bits + 2 ^ s.bits) - (16 * (k * 2 ^ s.bits) / wid s + 0) * wid s) (wid s) = wid s
   rw [e0,Nat.add_zero,Nat.mul_add,em,show 16 * 2 ^ s.bits = wid s from rfl,Nat.add_sub_cancel_left,Nat.min_self]
 rw [ec,ea,eb,List.drop_zero,List.take_of_length_le (by omega)]
theorem clus_in {s : ImS} (hO : ImOK s) {k : Nat} (hk : k < s.t.length) : iIns s ((k * 2 ^ s.bits : Nat) : Int) ((2 ^ s.bits : Nat) : Int) = 0:=by
 have h : k * 2 ^ s.bits + 2 ^ s.bits ≤ iall s:=by
   have:=Nat.mul_le_mul_right (2 ^ s.bits) (show k + 1 ≤ s.t.length from hk)
   rw [Nat.succ_mul] at this
   exact this
 unfold iIns
 generalize k * 2 ^ s.bits = Q at *
 generalize 2 ^ s.bits = P at *
 rw [if_neg (by omega),if_neg (by omega)]
/-- A chain that nobody broke. -/
structure ChOK (bits : Nat) (room : Nat) (L : List Dsk) : Prop extends ChN L where
 b3 : bits ≤ 3
 r512 : room ≤ 512
 len : L.length ≤ 16
 ims : ∀ d,d ∈ L → ImOK d.im ∧ d.im.bits = bits ∧ d.im.l.length = room
 kn : ∀ d,d ∈ L → d.back ≠ [] → ∃ e,dk L d.back = some e
 ne : ∀ d,d ∈ L → d.nm ≠ []
 dn : ∀ d,d ∈ L → ∃ k,k ≤ 8 ∧ Dn L d.nm k
theorem bl_known {bits room : Nat} {L : List Dsk} (h : ChOK bits room L) {nm : List UInt8} {k : Nat} (hk : Dn L nm k) : ∀ n,n ∈ bl L k nm → ∃ e,dk L n = some e:=by
 induction hk with
 | gone _=>intro n hn; cases hn
 | base _ _=>intro n hn; cases hn
 | @step nm d k h1 h2 h3 ih =>
   intro n hn
   unfold bl at hn
   rw [h1] at hn
   rcases List.mem_cons.1 hn with rfl | hn
   · exact h.kn d (dk_get h1).1 h2
   · exact ih n hn
def seenL (bits : Nat) (L : List Dsk) (k : Nat) : List (List UInt8) → Nat → List UInt8 × Nat
 | [],_=>(List.replicate (16 * 2 ^ bits) 0,0)
 | n :: ns,i=>match dk L n with
   | none=>([],0)
   | some d=>if k < d.im.t.length ∧ (d.im.t.getD k s0).1 ≠ 0 then (clus d.im k none,i + 1) else seenL bits L k ns (i + 1)
theorem seenL_len {bits room : Nat} {L : List Dsk} (h : ChOK bits room L) (k : Nat) : ∀ (ns : List (List UInt8)) (i : Nat),(seenL bits L k ns i).1.length ≤ 128
 | [],i=>by
   show (List.replicate (16 * 2 ^ bits) (0 : UInt8)).length ≤ 128
   rw [List.length_replicate]
   have:=pow_le8 h.b3
   omega
 | n :: ns,i=>by
   unfold seenL
   cases e : dk L n with
   | none=>exact Nat.zero_le _
   | some d =>
     simp only
     split
     · rename_i hh
       obtain ⟨o1,o2,_⟩:=h.ims d (dk_get e).1
       rw [clus_len o1 hh.1 none]
       exact (wid_le o1.bits).2
     · exact seenL_len h k ns (i + 1)
@[reducible] def seK (bits : Nat) (k : Nat) (l : List (List UInt8)) (j : Nat) : KL:=[(0,vP 1001),(2,vI (k : Int)),(8,vI ((2 ^ bits : Nat) : Int)),(24,vL .str l),(25,vI (l.length : Nat)),(26,vI (j : Nat))]
@[reducible] def seK0 (bits : Nat) (nm : List UInt8) (k : Nat) : KL:=[(1000000 + (1000000 + 20),.undef),(0,vP 1001),(1,vS nm),(2,vI (k : Int)),(8,vI ((2 ^ bits : Nat) : Int))]
theorem strInf : (Tryz.prog.info? 9).map (fun i=>(i.zero,i.size,i.bytes)) = some (some (.string ⟨#[]⟩),1,16):=by kernel_rfl
set_option maxHeartbeats 1000000 in
theorem seen_fn (bits room : Nat) (L : List Dsk) (hC : ChOK bits room L) (nm : List UInt8) (d0 : Dsk) (h0 : dk L nm = some d0) (kk : Nat) (hkk : Dn L nm kk) (hk8 : kk ≤ 100) (k : Nat) (hk : k ≤ 100000) :
   Fn Tryz.prog 70 [vP 1001,vS nm,vI (k : Int)] (chB bits room L) [] (.tup [.one (.d (.lst .u8 (seenL bits L k (nm :: bl L kk nm) 0).1)),.one (.d (.int .i64 (((seenL bits L k (nm :: bl L kk nm) 0).2 : Nat) : Int)))]) (chB bits room L):=by
 obtain ⟨ia,ia1,ia2⟩:=inf_of infAdr
 obtain ⟨istr,is1,is2,is3,is4⟩:=info_parts strInf
 have hp:=pow_le8 hC.b3
 have hlen:=bl_len hkk
 have hkn : ∀ n,n ∈ nm :: bl L kk nm → ∃ e,dk L n = some e:=fun n hn=>by
   rcases List.mem_cons.1 hn with rfl | hn
   · exact ⟨d0,h0⟩
   · exact bl_known hC hkk n hn
 have e1 : (1 : Int) * ((2 ^ bits : Nat) : Int) = ((2 ^ bits : Nat) : Int):=Int.one_mul _
 obtain ⟨l,hl⟩ : ∃ l,l = nm :: bl L kk nm:=⟨_,rfl⟩
 have hll : l.length = kk + 1:=by rw [hl,List.length_cons,hlen]
 refine Fn.of tblOK [2,5,6,7,8,10] _ _ _ _ _ Tryz.func70 rfl rfl (by kernel_rfl) (by kernel_rfl) rfl (drawOK tblOK) rfl ?_
 have m1 : (0 : Int) ≤ 1 ∧ (0 : Int) ≤ (bits : Int) ∧ (bits : Int) ≤ 64:=by have:=hC.b3; omega
 have m2 : (-9223372036854775808 : Int) ≤ 1 * ((2 ^ bits : Nat) : Int) ∧ (1 : Int) * ((2 ^ bits : Nat) : Int) ≤ 9223372036854775807:=by rw [e1]; omega
 refine ⟨m1,m2,?_⟩
 show TrQ _ _ _ _ _ _ _
 refine TrQ.bo 20 (by decide) ?_
 refine TrQ.go tblOK (drawOK tblOK) [5,6,7,8,10] (by kernel_rfl) (Le.sub (K':=seK0 bits nm k) (B':=chB bits room L) ⟨trivial,rfl,rfl,rfl,e1,trivial⟩ ⟨rfl,rfl,rfl,rfl,trivial⟩) ?_
 refine ⟨_,_,fun N=>opOK_buildOwn1 (d:=20) rfl Tryz.underlying102 is1 is2 is3 rfl N,rfl,?_⟩
 refine ⟨_,_,_,_,below_fn bits room L hC.toChN nm kk hkk (by omega),⟨rfl,rfl,rfl,rfl,trivial⟩,rfl,?_⟩
 have hle : [nm].length + (bl L kk nm).length ≤ 4294967296:=by rw [hlen]; simp; omega
 refine ⟨hle,rfl,?_⟩
 show TrQ _ _ _ _ _ _ _
 refine TrQ.loop tblOK (drawOK tblOK) [5,6,7,8,10] (by kernel_rfl) (X:=Nat) (seK bits k l) (fun _=>chB bits room L) (fun j=>j ≤ l.length ∧ seenL bits L k (l.drop j) j = seenL bits L k l 0) (fun j=>l.length - j) 0 ⟨Nat.zero_le _,by rw [List.drop_zero]⟩ ?_ ?_
 · subst hl
   exact (Le.frz (e:=9) (u:=.str) (xs:=nm :: bl L kk nm) 24 rfl).trans (Le.sub ⟨rfl,rfl,rfl,rfl,rfl,rfl,trivial⟩ ⟨rfl,rfl,rfl,rfl,trivial⟩)
 rintro j ⟨hj,hres⟩
 rw [← hl]
 refine ⟨fun h=>?_,fun h=>?_⟩
 · have h : decide ((j : Int) < (l.length : Nat)) = true:=h
   have hj2 : j < l.length:=by simpa using h
   obtain ⟨d,hd⟩:=hkn l[j] (by rw [← hl]; exact List.getElem_mem hj2)
   have hdL:=(dk_get hd).1
   obtain ⟨o1,o2,o3⟩:=hC.ims d hdL
   have hLd:=hC.toChN.D hdL
   have hLm:=hC.toChN.M hdL
   have hx : (mget (ku:=.str) (vu:=.adr) (chE L) l[j]).getD (dflt .adr) = some d.ad:=by rw [cget,hd]; rfl
   have hdrop : l.drop j = l[j] :: l.drop (j + 1):=List.drop_eq_getElem_cons hj2
   have hstep : seenL bits L k (l.drop j) j = if k < d.im.t.length ∧ (d.im.t.getD k s0).1 ≠ 0 then (clus d.im k none,j + 1) else seenL bits L k (l.drop (j + 1)) (j + 1):=by
     rw [hdrop]
     show (match dk L l[j] with | none=>([],0) | some d=>_) = _
     rw [hd]
   have m3 : (0 : Int) ≤ (j : Int):=by omega
   have m6 : (-9223372036854775808 : Int) ≤ (j : Int) + 1 ∧ (j : Int) + 1 ≤ 9223372036854775807:=by omega
   refine ⟨m3,l[j],lgAt (n:=j) hj2,?_⟩
   generalize l[j] = n at *
   show TrQ _ _ _ _ _ _ _
   refine TrQ.go tblOK (drawOK tblOK) [6,7,8,10] (by kernel_rfl) (Le.sub (K':=(9,vI (j : Nat)) :: (10,vS n) :: seK bits k l j) (B':=chB bits room L) ⟨rfl,rfl,rfl,rfl,rfl,rfl,rfl,rfl,trivial⟩ ⟨rfl,rfl,rfl,rfl,trivial⟩) ?_
   refine ⟨_,_,fun N=>opOK_nilAdr (b:=d.ad) rfl (by exact adrV_eq hx) N,rfl,?_⟩
   refine ⟨_,_,fun N=>opOK_fieldAdr rfl Tryz.underlying130 rfl rfl ia1 (by rw [ia2]; decide) rfl N,rfl,?_⟩
   refine ⟨_,_,fun N=>opOK_loadRaw (q:=1003) rfl Tryz.underlying49 rfl rfl rfl hLd rfl N,rfl,?_⟩
   show TrQ _ _ _ _ _ _ _
   refine TrQ.go tblOK (drawOK tblOK) [7,8,10] (by kernel_rfl) (Le.sub (K':=(9,vI (j : Nat)) :: (11,vAd d.am) :: seK bits k l j) (B':=chB bits room L) ⟨rfl,rfl,rfl,rfl,rfl,rfl,rfl,rfl,trivial⟩ ⟨rfl,rfl,rfl,rfl,trivial⟩) ?_
   refine ⟨_,_,_,_,imFn (isize_fn d.im) hLm rfl rfl rfl rfl,⟨rfl,trivial⟩,rfl,?_⟩
   refine ⟨fun h1=>?_,fun h1=>?_⟩
   · have h1 : (k : Int) < (d.im.t.length : Nat):=of_decide_eq_true h1
     have hk1 : k < d.im.t.length:=by omega
     refine ⟨_,_,_,_,imFn (ikindD_fn d.im o1.tl k hk1) hLm rfl rfl rfl rfl,⟨rfl,trivial⟩,rfl,?_⟩
     refine ⟨fun h2=>?_,fun h2=>?_⟩
     · have h2 : (d.im.t.getD k s0).1 ≠ 0:=by
         have h2 : (!decide ((d.im.t.getD k s0).1 = 0)) = true:=h2
         simpa using h2
       rw [hstep,if_pos ⟨hk1,h2⟩] at hres
       have hin:=clus_in o1 hk1
       have hrd:=iread_ok d.im o1 (k * 2 ^ d.im.bits) (2 ^ d.im.bits) hin
       rw [clus_take o1 hk1] at hrd
       rw [o2] at hrd hin
       have ek : ((k * 2 ^ bits : Nat) : Int) = (k : Int) * ((2 ^ bits : Nat) : Int):=Int.natCast_mul _ _
       rw [ek] at hrd
       have m4 : (-9223372036854775808 : Int) ≤ (k : Int) * ((2 ^ bits : Nat) : Int) ∧ (k : Int) * ((2 ^ bits : Nat) : Int) ≤ 9223372036854775807:=by
         rw [← ek]
         have:=Nat.mul_le_mul hk hp.2
         omega
       show TrQ _ _ _ _ _ _ _
       refine TrQ.go tblOK (drawOK tblOK) [8,10] (by kernel_rfl) (Le.sub (K':=(9,vI (j : Nat)) :: (11,vAd d.am) :: seK bits k l j) (B':=chB bits room L) ⟨rfl,rfl,rfl,rfl,rfl,rfl,rfl,rfl,trivial⟩ ⟨rfl,rfl,rfl,rfl,trivial⟩) ?_
       refine ⟨m4,?_⟩
       refine ⟨_,_,_,_,imFn hrd hLm rfl rfl rfl rfl,⟨rfl,trivial⟩,rfl,?_⟩
       show TrQ _ _ _ _ _ _ _
       refine TrQ.go tblOK (drawOK tblOK) [] (by kernel_rfl) (Le.refl _ _) ?_
       have m5 : (-9223372036854775808 : Int) ≤ (j : Int) + 1 ∧ (j : Int) + 1 ≤ 9223372036854775807:=by omega
       refine ⟨m5,?_⟩
       refine ⟨_,_,_,Le.refl _ _,rfl,⟨?_,?_,trivial⟩,⟨rfl,rfl,rfl,rfl,trivial⟩,rfl⟩
       · exact congrArg Prod.fst hres
       · show (j : Int) + 1 = _
         rw [← hres]
         rfl
     · have h2 : (d.im.t.getD k s0).1 = 0:=by
         have h2 : (!decide ((d.im.t.getD k s0).1 = 0)) = false:=h2
         simpa using h2
       rw [hstep,if_neg (fun h=>h.2 h2)] at hres
       exact ⟨m6,j + 1,⟨hj2,hres⟩,by omega,Le.sub ⟨rfl,rfl,rfl,rfl,rfl,rfl,trivial⟩ ⟨rfl,rfl,rfl,rfl,trivial⟩⟩
   · have h1 : ¬ (k : Int) < (d.im.t.length : Nat):=of_decide_eq_false h1
     rw [hstep,if_neg (fun h=>h1 (by have:=h.1; omega))] at hres
     exact ⟨m6,j + 1,⟨hj2,hres⟩,by omega,Le.sub ⟨rfl,rfl,rfl,rfl,rfl,rfl,trivial⟩ ⟨rfl,rfl,rfl,rfl,trivial⟩⟩
 · have h : decide ((j : Int) < (l.length : Nat)) = false:=h
   have hj2 : j = l.length:=by simp at h; omega
   subst hj2
   rw [List.drop_length] at hres
   have e16 : ((2 ^ bits : Nat) : Int) * 16 = ((16 * 2 ^ bits : Nat) : Int):=by omega
   have m7 : (-9223372036854775808 : Int) ≤ ((2 ^ bits : Nat) : Int) * 16 ∧ ((2 ^ bits : Nat) : Int) * 16 ≤ 9223372036854775807:=by rw [e16]; omega
   have m8 : ((2 ^ bits : Nat) : Int) * 16 = ((2 ^ bits : Nat) : Int) * 16 ∧ (0 : Int) ≤ ((2 ^ bits : Nat) : Int) * 16 ∧ ((2 ^ bits : Nat) : Int) * 16 ≤ 4294967296:=by rw [e16]; omega
   show TrQ _ _ _ _ _ _ _
   refine TrQ.go tblOK (drawOK tblOK) [] (by kernel_rfl) (Le.refl _ _) ?_
   refine ⟨m7,m8,rfl,?_⟩
   refine ⟨_,_,_,Le.frz 65 rfl,rfl,⟨?_,?_,trivial⟩,⟨rfl,rfl,rfl,rfl,trivial⟩,rfl⟩
   · have ez : List.replicate (((2 ^ bits : Nat) : Int) * 16).toNat (0 : UInt8) = (seenL bits L k l 0).1:=by
       rw [← hres,e16]
       rfl
     exact ez
   · show (0 : Int) = _
     rw [← hres]
     rfl
/-! Chains: Cluster,Depth,Read,New. -/
theorem and_i64 {a b : Int} (h1 : 0 ≤ a) (h2 : a ≤ 9223372036854775807) (h3 : 0 ≤ b) (h4 : b ≤ 9223372036854775807) :
   IntKind.i64.wrap (((BitVec.ofInt 64 a &&& BitVec.ofInt 64 b).toNat : Nat) : Int) = ((a.toNat &&& b.toNat : Nat) : Int):=by
 have e1 : (BitVec.ofInt 64 a).toNat = a.toNat:=by rw [BitVec.toNat_ofInt]; omega
 have e2 : (BitVec.ofInt 64 b).toNat = b.toNat:=by rw [BitVec.toNat_ofInt]; omega
 rw [BitVec.toNat_and,e1,e2]
 have h : a.toNat &&& b.toNat < 2 ^ 63:=Nat.and_lt_two_pow _ (by omega)
 exact wrap_in (by simp only [inK]; omega)
theorem opOK_and {P : Program} {ids : List Nat} {K : KL} {B : BL} {o : Oper} {T T2 : TypeId} {x y : Operand} {a b : Int} (ho : o.op = .binOp .and T x y T2) (hx : opv K x = .c (.one (.d (.int .i64 a)))) (hy : opv K y = .c (.one (.d (.int .i64 b)))) (h1 : 0 ≤ a) (h2 : a ≤ 9223372036854775807) (h3 : 0 ≤ b) (h4 : b ≤ 9223372036854775807) (N : Nat) :
   OpOK P N ids o K B (.c (.one (.d (.int .i64 ((a.toNat &&& b.toNat : Nat) : Int))))) ⟨[],[],[]⟩:=by
 have m1 : x ∈ o.op.operands:=by rw [ho]; simp [Op.operands]
 have m2 : y ∈ o.op.operands:=by rw [ho]; simp [Op.operands]
 refine OpOK.val fun K' B' g1 g2 C ρ F ac w hM hS=>?_
 have e1:=hS.int ((g1 x m1).trans hx)
 have e2:=hS.int ((g1 y m2).trans hy)
 refine ⟨_,?_,rfl⟩
 have e:=and_i64 h1 h2 h3 h4
 have hs : Op.intBits .and .i64 a b = pure (.int .i64 ((a.toNat &&& b.toNat : Nat) : Int)):=by
   exact congrArg (fun z : Int=>(pure (Value.int .i64 z) : Sem Value)) e
 simp only [execOp,ho,e1,e2,eqGuard,binOp,hs]
 simp [go_sem]
/-- What a disk reads in a cluster. -/
def cseen (bits : Nat) (L : List Dsk) (nm : List UInt8) (kk k : Nat) : List UInt8:=(seenL bits L k (nm :: bl L kk nm) 0).1
theorem cluster_in (bits room : Nat) (L : List Dsk) (hC : ChOK bits room L) (nm : List UInt8) (d0 : Dsk) (h0 : dk L nm = some d0) (kk : Nat) (hkk : Dn L nm kk) (hk8 : kk ≤ 100) (k : Nat) (hk : k < d0.im.t.length) :
   Fn Tryz.prog 16 [vP 1001,vS nm,vI (k : Int)] (chB bits room L) [] (vL .u8 (cseen bits L nm kk k)) (chB bits room L):=by
 obtain ⟨ia,ia1,ia2⟩:=inf_of infAdr
 have hd:=(dk_get h0).1
 obtain ⟨o1,o2,o3⟩:=hC.ims d0 hd
 have hLd:=hC.toChN.D hd
 have hLm:=hC.toChN.M hd
 have hx : (mget (ku:=.str) (vu:=.adr) (chE L) nm).getD (dflt .adr) = some d0.ad:=by rw [cget,h0]; rfl
 have htl:=o1.tl
 refine Fn.of tblOK [2,4] _ _ _ _ _ Tryz.func16 rfl rfl (by kernel_rfl) (by kernel_rfl) rfl (drawOK tblOK) rfl ?_
 show TrQ _ _ _ _ _ _ _
 refine TrQ.go tblOK (drawOK tblOK) [4] (by kernel_rfl) (Le.refl _ _) ?_
 refine ⟨fun b' hb=>?_,fun hb=>absurd (show (mget (ku:=.str) (vu:=.adr) (chE L) nm).getD (dflt .adr) = none from hb) (by rw [hx]; intro h; cases h)⟩
 refine ⟨fun h=>absurd (of_decide_eq_true h) (by omega),fun _=>?_⟩
 refine ⟨_,_,fun N=>opOK_nilAdr (b:=d0.ad) rfl (by exact adrV_eq hx) N,rfl,?_⟩
 refine ⟨_,_,fun N=>opOK_fieldAdr rfl Tryz.underlying130 rfl rfl ia1 (by rw [ia2]; decide) rfl N,rfl,?_⟩
 refine ⟨_,_,fun N=>opOK_loadRaw (q:=1003) rfl Tryz.underlying49 rfl rfl rfl hLd rfl N,rfl,?_⟩
 refine ⟨_,_,_,_,imFn (isize_fn d0.im) hLm rfl rfl rfl rfl,⟨rfl,trivial⟩,rfl,?_⟩
 refine ⟨fun h=>?_,fun _=>?_⟩
 · exfalso
   have h : ((d0.im.t.length : Nat) : Int) ≤ (k : Int):=of_decide_eq_true h
   omega
 show TrQ _ _ _ _ _ _ _
 refine TrQ.go tblOK (drawOK tblOK) [] (by kernel_rfl) (Le.sub (K':=[(0,vP 1001),(1,vS nm),(2,vI (k : Int))]) (B':=chB bits room L) ⟨rfl,rfl,rfl,trivial⟩ ⟨rfl,rfl,rfl,rfl,trivial⟩) ?_
 refine ⟨_,_,_,_,seen_fn bits room L hC nm d0 h0 kk hkk hk8 k (by omega),⟨rfl,rfl,rfl,rfl,trivial⟩,rfl,?_⟩
 exact ⟨_,_,_,Le.refl _ _,rfl,rfl,⟨rfl,rfl,rfl,rfl,trivial⟩,rfl⟩
/-! ### New -/
theorem chnew_ok (bits room : Nat) (h1 : bits ≤ 3) (h3 : room ≤ 512) : Fn Tryz.prog 6 [vI (bits : Int),vI (room : Int)] [] [1001,1002,1003,1004] (.tup [.one (.ptr 1001 0),vErr 0]) (chB bits room []):=by
 refine Fn.of tblOK [2] _ _ _ _ _ Tryz.func6 rfl rfl (by kernel_rfl) (by kernel_rfl) rfl (drawOK tblOK) rfl ?_
 refine ⟨_,_,_,_,Fn.ren [(1001,2001),(1002,2002),(1003,2003),(1004,2004)] (inew_ok bits 0 room h1 (by decide) h3),trivial,rfl,?_⟩
 show TrQ _ _ _ _ _ _ _
 refine TrQ.go tblOK (drawOK tblOK) [] (by kernel_rfl) (Le.sub (K':=[(0,vI (bits : Int)),(1,vI (room : Int)),(7,vI 0)]) (B':=[]) ⟨rfl,rfl,rfl,trivial⟩ trivial) ?_
 refine ⟨fun h=>absurd h (by decide),fun _=>?_⟩
 refine ⟨rfl,?_⟩
 refine ⟨rfl,?_⟩
 exact ⟨_,_,_,(Le.ren 21 1001 rfl).trans ((Le.ren 19 1002 rfl).trans ((Le.emp 1003 rfl).trans (Le.emp 1004 rfl))),rfl,⟨rfl,rfl,trivial⟩,⟨rfl,rfl,rfl,rfl,trivial⟩,rfl⟩
/-! ### Read -/
def crdP (bits : Nat) (L : List Dsk) (nm : List UInt8) (kk s : Nat) : List UInt8:=((cseen bits L nm kk (s / 2 ^ bits)).take (s % 2 ^ bits * 16 + 16)).drop (s % 2 ^ bits * 16)
def crdK (bits : Nat) (L : List Dsk) (nm : List UInt8) (kk a : Nat) : Nat → List UInt8
 | 0=>[]
 | j + 1=>crdK bits L nm kk a j ++ crdP bits L nm kk (a + j)
theorem seenL_eq {bits room : Nat} {L : List Dsk} (h : ChOK bits room L) (k : Nat) : ∀ (ns : List (List UInt8)) (i : Nat),(∀ n,n ∈ ns → ∃ e,dk L n = some e) → (seenL bits L k ns i).1.length = 16 * 2 ^ bits
 | [],i,_=>List.length_replicate
 | n :: ns,i,hn=>by
   obtain ⟨d,e⟩:=hn n (List.mem_cons_self ..)
   unfold seenL
   rw [e]
   simp only
   split
   · rename_i hh
     obtain ⟨o1,o2,_⟩:=h.ims d (dk_get e).1
     rw [clus_len o1 hh.1 none]
     show 16 * 2 ^ d.im.bits = _
     rw [o2]
   · exact seenL_eq h k ns (i + 1) fun n hm=>hn n (List.mem_cons_of_mem _ hm)
theorem cseen_len {bits room : Nat} {L : List Dsk} (h : ChOK bits room L) {nm : List UInt8} {d0 : Dsk} (h0 : dk L nm = some d0) {kk : Nat} (hkk : Dn L nm kk) (k : Nat) : (cseen bits L nm kk k).length = 16 * 2 ^ bits :=
 seenL_eq h k _ 0 fun n hn=>by
   rcases List.mem_cons.1 hn with rfl | hn
   · exact ⟨d0,h0⟩
   · exact bl_known h hkk n hn
theorem crdK_len {bits room : Nat} {L : List Dsk} (h : ChOK bits room L) {nm : List UInt8} {d0 : Dsk} (h0 : dk L nm = some d0) {kk : Nat} (hkk : Dn L nm kk) (a : Nat) : ∀ j,(crdK bits L nm kk a j).length = 16 * j
 | 0=>rfl
 | j + 1=>by
   have ih:=crdK_len h h0 hkk a j
   have hc:=cseen_len h h0 hkk ((a + j) / 2 ^ bits)
   have hp:=(pow_le8 h.b3).1
   have hm : (a + j) % 2 ^ bits < 2 ^ bits:=Nat.mod_lt _ (by omega)
   show (crdK bits L nm kk a j ++ crdP bits L nm kk (a + j)).length = _
   rw [List.length_append,ih]
   unfold crdP
   rw [List.length_drop,List.length_take,hc]
   generalize (a + j) % 2 ^ bits = m at *
   generalize 2 ^ bits = P at *
   omega
@[reducible] def crK (nm : List UInt8) (a l j : Nat) : KL:=[(0,vP 1001),(1,vS nm),(2,vI (a : Int)),(3,vI (l : Int)),(13,vOwn 5002),(14,vI ((a + j : Nat) : Int))]
@[reducible] def crK2 (nm : List UInt8) (a l j : Nat) : KL:=[(0,vP 1001),(1,vS nm),(2,vI (a : Int)),(3,vI (l : Int)),(13,vOwn 70),(14,vI ((a + j : Nat) : Int))]
@[reducible] def crB (bits room : Int) (L : List Dsk) (acc : List UInt8) : BL:=chB bits room L ++ [(5002,.row 5 .u8 acc)]
@[reducible] def crB2 (bits room : Int) (L : List Dsk) (acc : List UInt8) : BL:=chB bits room L ++ [(70,.row 5 .u8 acc)]
set_option maxHeartbeats 1000000 in
theorem chread_own (bits room : Nat) (L : List Dsk) (hC : ChOK bits room L) (nm : List UInt8) (d0 : Dsk) (h0 : dk L nm = some d0) (kk : Nat) (hkk : Dn L nm kk) (hk8 : kk ≤ 100) (a l : Nat) (hin : iIns d0.im a l = 0) :
   Fn Tryz.prog 51 [vP 1001,vS nm,vI (a : Int),vI (l : Int)] (chB bits room L) [2001] (.tup [.one (.own 2001),vErr 0]) (chB bits room L ++ [(2001,.row 5 .u8 (crdK bits L nm kk a l))]):=by
 obtain ⟨ia,ia1,ia2⟩:=inf_of infAdr
 have hd:=(dk_get h0).1
 obtain ⟨o1,o2,o3⟩:=hC.ims d0 hd
 have hLd:=hC.toChN.D hd
 have hLm:=hC.toChN.M hd
 have hx : (mget (ku:=.str) (vu:=.adr) (chE L) nm).getD (dflt .adr) = some d0.ad:=by rw [cget,h0]; rfl
 have hp:=pow_le8 hC.b3
 have hall:=iIns_all hin
 have hal : iall d0.im ≤ 2048:=Nat.mul_le_mul o1.tl (pow_le8 o1.bits).2
 have hia : iall d0.im = d0.im.t.length * 2 ^ bits:=by unfold iall; rw [o2]
 refine Fn.of tblOK [2,5,7,9,11,12] _ _ _ _ _ Tryz.func51 rfl rfl (by kernel_rfl) (by kernel_rfl) rfl (drawOK tblOK) rfl ?_
 show TrQ _ _ _ _ _ _ _
 refine TrQ.go tblOK (drawOK tblOK) [5,7,9,11,12] (by kernel_rfl) (Le.refl _ _) ?_
 refine ⟨fun b' hb=>?_,fun hb=>absurd (show (mget (ku:=.str) (vu:=.adr) (chE L) nm).getD (dflt .adr) = none from hb) (by rw [hx]; intro h; cases h)⟩
 refine ⟨_,_,fun N=>opOK_nilAdr (b:=d0.ad) rfl (by exact adrV_eq hx) N,rfl,?_⟩
 refine ⟨_,_,fun N=>opOK_fieldAdr rfl Tryz.underlying130 rfl rfl ia1 (by rw [ia2]; decide) rfl N,rfl,?_⟩
 refine ⟨_,_,fun N=>opOK_loadRaw (q:=1003) rfl Tryz.underlying49 rfl rfl rfl hLd rfl N,rfl,?_⟩
 refine ⟨_,_,_,_,imFn (iread_ok d0.im o1 a l hin) hLm rfl rfl rfl rfl,⟨rfl,trivial⟩,rfl,?_⟩
 show TrQ _ _ _ _ _ _ _
 refine TrQ.go tblOK (drawOK tblOK) [7,9,11,12] (by kernel_rfl) (Le.sub (K':=[(0,vP 1001),(1,vS nm),(2,vI (a : Int)),(3,vI (l : Int)),(12,vI 0)]) (B':=chB bits room L) ⟨rfl,rfl,rfl,rfl,rfl,trivial⟩ ⟨rfl,rfl,rfl,rfl,trivial⟩) ?_
 refine ⟨fun h=>absurd h (by decide),fun _=>?_⟩
 show TrQ _ _ _ _ _ _ _
 refine TrQ.go tblOK (drawOK tblOK) [9,11,12] (by kernel_rfl) (Le.refl _ _) ?_
 show TrQ _ _ _ _ _ _ _
 refine TrQ.loop tblOK (drawOK tblOK) [11,12] (by kernel_rfl) (X:=Nat) (crK nm a l) (fun j=>crB bits room L (crdK bits L nm kk a j)) (fun j=>j ≤ l) (fun j=>l - j) 0 (Nat.zero_le _) ?_ ?_
 · exact (Le.nil 13 5002 5 .u8 rfl rfl).trans (Le.sub ⟨rfl,rfl,rfl,rfl,rfl,rfl,trivial⟩ ⟨rfl,rfl,rfl,rfl,rfl,trivial⟩)
 intro j hj
 have m1 : (-9223372036854775808 : Int) ≤ (a : Int) + (l : Int) ∧ (a : Int) + (l : Int) ≤ 9223372036854775807:=by omega
 refine ⟨m1,?_⟩
 refine ⟨fun h=>?_,fun h=>?_⟩
 · have h : ((a + j : Nat) : Int) < (a : Int) + (l : Int):=of_decide_eq_true h
   have hjl : j < l:=by omega
   have hacc:=crdK_len hC h0 hkk a j
   have hk1 : (a + j) / 2 ^ bits < d0.im.t.length:=by
     rw [Nat.div_lt_iff_lt_mul (by omega),← hia]
     omega
   have hcl:=cseen_len hC h0 hkk ((a + j) / 2 ^ bits)
   have hmod : (a + j) % 2 ^ bits < 2 ^ bits:=Nat.mod_lt _ (by omega)
   have hcu:=cluster_in bits room L hC nm d0 h0 kk hkk hk8 ((a + j) / 2 ^ bits) hk1
   have m2 : (0 : Int) ≤ ((a + j : Nat) : Int) ∧ (0 : Int) ≤ (bits : Int) ∧ (bits : Int) ≤ 64:=by have:=hC.b3; omega
   have m3 : (0 : Int) ≤ 1 ∧ (0 : Int) ≤ (bits : Int) ∧ (bits : Int) ≤ 64:=by have:=hC.b3; omega
   have e1 : (1 : Int) * ((2 ^ bits : Nat) : Int) = ((2 ^ bits : Nat) : Int):=Int.one_mul _
   have m4 : (-9223372036854775808 : Int) ≤ 1 * ((2 ^ bits : Nat) : Int) ∧ (1 : Int) * ((2 ^ bits : Nat) : Int) ≤ 9223372036854775807:=by rw [e1]; generalize 2 ^ bits = P at *; omega
   have m5 : (-9223372036854775808 : Int) ≤ 1 * ((2 ^ bits : Nat) : Int) - 1 ∧ (1 : Int) * ((2 ^ bits : Nat) : Int) - 1 ≤ 9223372036854775807:=by rw [e1]; generalize 2 ^ bits = P at *; omega
   show TrQ _ _ _ _ _ _ _
   refine TrQ.go tblOK (drawOK tblOK) [12] (by kernel_rfl) (Le.refl _ _) ?_
   refine ⟨m2,m3,m4,m5,?_⟩
   have et : (1 * ((2 ^ bits : Nat) : Int) - 1).toNat = 2 ^ bits - 1:=by rw [e1]; generalize 2 ^ bits = P at *; omega
   have ev : (((((a + j : Nat) : Int)).toNat &&& (1 * ((2 ^ bits : Nat) : Int) - 1).toNat : Nat) : Int) = (((a + j) % 2 ^ bits : Nat) : Int):=by
     rw [et,show (((a + j : Nat) : Int)).toNat = a + j from rfl,Nat.and_two_pow_sub_one_eq_mod]
   have e16 : (((((a + j : Nat) : Int)).toNat &&& (1 * ((2 ^ bits : Nat) : Int) - 1).toNat : Nat) : Int) * 16 = (((a + j) % 2 ^ bits * 16 : Nat) : Int):=by rw [ev]; omega
   have e15 : ((a + j : Nat) : Int) / ((2 ^ bits : Nat) : Int) = (((a + j) / 2 ^ bits : Nat) : Int):=rfl
   have m6 : (-9223372036854775808 : Int) ≤ (((((a + j : Nat) : Int)).toNat &&& (1 * ((2 ^ bits : Nat) : Int) - 1).toNat : Nat) : Int) * 16 ∧ (((((a + j : Nat) : Int)).toNat &&& (1 * ((2 ^ bits : Nat) : Int) - 1).toNat : Nat) : Int) * 16 ≤ 9223372036854775807:=by
     rw [e16]
     generalize (a + j) % 2 ^ bits = m at *
     generalize 2 ^ bits = P at *
     omega
   refine ⟨_,_,fun N=>opOK_and rfl rfl rfl m2.1 (by omega) (by rw [e1]; generalize 2 ^ bits = P at *; omega) m5.2 N,rfl,?_⟩
   refine ⟨m6,rfl,?_⟩
   have m7 : (-9223372036854775808 : Int) ≤ (((a + j) % 2 ^ bits * 16 : Nat) : Int) + 16 ∧ (((a + j) % 2 ^ bits * 16 : Nat) : Int) + 16 ≤ 9223372036854775807:=by
     generalize (a + j) % 2 ^ bits = m at *
     generalize 2 ^ bits = P at *
     omega
   have m8 : (0 : Int) ≤ (((a + j) % 2 ^ bits * 16 : Nat) : Int) ∧ (((a + j) % 2 ^ bits * 16 : Nat) : Int) ≤ (((a + j) % 2 ^ bits * 16 : Nat) : Int) + 16 ∧ (((a + j) % 2 ^ bits * 16 : Nat) : Int) + 16 ≤ (((cseen bits L nm kk ((a + j) / 2 ^ bits)).length : Nat) : Int):=by
     rw [hcl]
     generalize (a + j) % 2 ^ bits = m at *
     generalize 2 ^ bits = P at *
     omega
   have m9 : (crdK bits L nm kk a j).length + (crdP bits L nm kk (a + j)).length ≤ 4294967296:=by
     have:=crdK_len hC h0 hkk a (j + 1)
     rw [show crdK bits L nm kk a (j + 1) = crdK bits L nm kk a j ++ crdP bits L nm kk (a + j) from rfl,List.length_append] at this
     omega
   show TrQ _ _ _ _ _ _ _
   refine TrQ.go tblOK (drawOK tblOK) [] (by kernel_rfl) (Le.sub (K':=(15,vI (((a + j) / 2 ^ bits : Nat) : Int)) :: (16,vI (((a + j) % 2 ^ bits * 16 : Nat) : Int)) :: crK nm a l j) (B':=crB bits room L (crdK bits L nm kk a j)) ⟨e15,e16,rfl,rfl,rfl,rfl,rfl,rfl,trivial⟩ ⟨rfl,rfl,rfl,rfl,rfl,trivial⟩) ?_
   refine ⟨_,_,_,_,hcu,⟨rfl,rfl,rfl,rfl,trivial⟩,rfl,?_⟩
   refine ⟨m7,m8,?_⟩
   refine ⟨m9,rfl,?_⟩
   have m10 : (-9223372036854775808 : Int) ≤ ((a + j : Nat) : Int) + 1 ∧ ((a + j : Nat) : Int) + 1 ≤ 9223372036854775807:=by omega
   refine ⟨m10,j + 1,by omega,by omega,?_⟩
   exact Le.trans (Le.sub (K':=crK2 nm a l (j + 1)) (B':=crB2 bits room L (crdK bits L nm kk a (j + 1))) ⟨rfl,rfl,rfl,rfl,rfl,rfl,trivial⟩ ⟨rfl,rfl,rfl,rfl,rfl,trivial⟩) (Le.ren 70 5002 rfl)
 · have h : ¬ ((a + j : Nat) : Int) < (a : Int) + (l : Int):=of_decide_eq_false h
   have hjl : j = l:=by omega
   subst hjl
   exact ⟨_,_,_,Le.ren 5002 2001 rfl,rfl,⟨rfl,rfl,trivial⟩,⟨rfl,rfl,rfl,rfl,rfl,trivial⟩,rfl⟩
theorem chread_ok (bits room : Nat) (L : List Dsk) (hC : ChOK bits room L) (nm : List UInt8) (d0 : Dsk) (h0 : dk L nm = some d0) (kk : Nat) (hkk : Dn L nm kk) (hk8 : kk ≤ 100) (a l : Nat) (hin : iIns d0.im a l = 0) :
   Fn Tryz.prog 51 [vP 1001,vS nm,vI (a : Int),vI (l : Int)] (chB bits room L) [] (.tup [.one (.d (.lst .u8 (crdK bits L nm kk a l))),vErr 0]) (chB bits room L) :=
 Fn.frzR (d:=2001) (chread_own bits room L hC nm d0 h0 kk hkk hk8 a l hin) rfl rfl rfl
theorem chread_none (bits room : Int) (L : List Dsk) (nm : List UInt8) (h0 : dk L nm = none) (a l : Int) :
   Fn Tryz.prog 51 [vP 1001,vS nm,vI a,vI l] (chB bits room L) [] (.tup [.one .nils,vErr 140]) (chB bits room L):=by
 have hx : (mget (ku:=.str) (vu:=.adr) (chE L) nm).getD (dflt .adr) = none:=by rw [cget,h0]; rfl
 refine Fn.of tblOK [] _ _ _ _ _ Tryz.func51 rfl rfl (by kernel_rfl) (by kernel_rfl) rfl (drawOK tblOK) rfl ?_
 refine ⟨fun b' hb=>absurd (show (mget (ku:=.str) (vu:=.adr) (chE L) nm).getD (dflt .adr) = some b' from hb) (by rw [hx]; intro h; cases h),fun _=>?_⟩
 exact ⟨_,_,_,Le.refl _ _,rfl,⟨rfl,rfl,trivial⟩,⟨rfl,rfl,rfl,rfl,trivial⟩,rfl⟩
theorem chread_end (bits room : Nat) (L : List Dsk) (hC : ChOK bits room L) (nm : List UInt8) (d0 : Dsk) (h0 : dk L nm = some d0) (a l : Int) (hin : iIns d0.im a l ≠ 0) :
   Fn Tryz.prog 51 [vP 1001,vS nm,vI a,vI l] (chB bits room L) [] (.tup [.one .nils,vErr (iIns d0.im a l)]) (chB bits room L):=by
 obtain ⟨ia,ia1,ia2⟩:=inf_of infAdr
 have hd:=(dk_get h0).1
 obtain ⟨o1,o2,o3⟩:=hC.ims d0 hd
 have hLd:=hC.toChN.D hd
 have hLm:=hC.toChN.M hd
 have hx : (mget (ku:=.str) (vu:=.adr) (chE L) nm).getD (dflt .adr) = some d0.ad:=by rw [cget,h0]; rfl
 refine Fn.of tblOK [] _ _ _ _ _ Tryz.func51 rfl rfl (by kernel_rfl) (by kernel_rfl) rfl (drawOK tblOK) rfl ?_
 refine ⟨fun b' hb=>?_,fun hb=>absurd (show (mget (ku:=.str) (vu:=.adr) (chE L) nm).getD (dflt .adr) = none from hb) (by rw [hx]; intro h; cases h)⟩
 refine ⟨_,_,fun N=>opOK_nilAdr (b:=d0.ad) rfl (by exact adrV_eq hx) N,rfl,?_⟩
 refine ⟨_,_,fun N=>opOK_fieldAdr rfl Tryz.underlying130 rfl rfl ia1 (by rw [ia2]; decide) rfl N,rfl,?_⟩
 refine ⟨_,_,fun N=>opOK_loadRaw (q:=1003) rfl Tryz.underlying49 rfl rfl rfl hLd rfl N,rfl,?_⟩
 refine ⟨_,_,_,_,imFn (iread_no d0.im o1 a l hin) hLm rfl rfl rfl rfl,⟨rfl,trivial⟩,rfl,?_⟩
 refine ⟨fun _=>?_,fun h=>absurd (show iIns d0.im a l = 0 by have h : (!decide (iIns d0.im a l = 0)) = false:=h; simpa using h) hin⟩
 exact ⟨_,_,_,Le.refl _ _,rfl,⟨rfl,rfl,trivial⟩,⟨rfl,rfl,rfl,rfl,trivial⟩,rfl⟩
end Go.Proofs.YteoamepgonpdlaaGreat
/-!
  The keys of a map of texts, sorted: maps.Keys, slices.Sorted.
-/
namespace Go.Proofs.YteoamepgonpdlaaGreat
set_option linter.unusedVariables false
set_option linter.unusedSimpArgs false
set_option maxRecDepth 10000
open Go.RowKit Go.Proofs Go.Maps Go.Shelf Go.MapKept
open Go.WideElems (Fit rd rg pl rd_val rd_key rg_of)
/-- The keys of a map; sorted. -/
def keyL {vu : U} (p : El .str × El vu) : List UInt8:=p.1
def mkeys {vu : U} (es : List (El .str × El vu)) : List (List UInt8):=es.map keyL
def keysS {vu : U} (es : List (El .str × El vu)) : List (List UInt8):=(mkeys es).mergeSort leB
abbrev Rany : Value → Option (DataW Unit × List MemPlace):=fun _=>some (.nil,[])
theorem mapU_keys_str {I : Nat → Prop} {w : World} {vu : U} : ∀ {l : List (El .str × El vu)} {es : List MapEntry},MapU I w .str vu l es → es.map (·.key) = (mkeys l).map encStr
 | [],_,h=>by rw [show _ = [] from h]; rfl
 | p :: l,_,⟨e,r,h,h1,_,h3⟩=>by
   rw [h,List.map_cons,mapU_keys_str h3,h1]
   rfl
theorem keyOf_enc {P : Program} {k : TypeId} (hk : P.underlying k = some .string) (s : List UInt8) (h : s.length ≤ maxLen) : keyOf P k (encStr s) = some (.string s):=by
 simp only [keyOf,hk,encStr,mapKey,ByteArray.size,List.size_toArray]
 rw [if_pos h]
theorem encStr_map_inj : ∀ {l m : List (List UInt8)},l.map encStr = m.map encStr → l = m
 | [],[],_=>rfl
 | [],_ :: _,h=>by simp at h
 | _ :: _,[],h=>by simp at h
 | x :: l,y :: m,h=>by
   simp only [List.map_cons,List.cons.injEq] at h
   rw [encStr_inj h.1,encStr_map_inj h.2]
theorem owns_of_map {P : Program} {k : TypeId} (hk : P.underlying k = some .string) {I : Nat → Prop} {w : World} {vu : U} {es : List (El .str × El vu)} {ents : List MapEntry} {clock b : Nat} (hb : w.heap[b]? = some (.map (List.toArray ents) clock))
   (hm : MapU I w .str vu es ents) (hB : Births ents clock) (hn : (mkeys es).Nodup) (hl : ∀ s ∈ mkeys es,s.length ≤ maxLen) (hs : es.length ≤ maxLen) :
   ∃ D0,w.ownsMap P k Rany b es.length D0 ∧ Maps.size D0 = es.length ∧ (strKeys D0).Perm (mkeys es):=by
 have hlen:=mapU_length hm
 have hkeys:=mapU_keys_str hm
 have hread : ∀ x ∈ ents,∃ s : List UInt8,x.key = encStr s ∧ s.length ≤ maxLen ∧ rg P k Rany x = (.string s,.nil) ∧ ∃ y,rd P k Rany x = some y:=by
   intro x hx
   have : x.key ∈ (mkeys es).map encStr:=by rw [← hkeys]; exact List.mem_map_of_mem hx
   obtain ⟨s,hp,he⟩:=List.mem_map.1 this
   have hko : keyOf P k x.key = some (.string s):=he ▸ keyOf_enc hk _ (hl s hp)
   have hrd : rd P k Rany x = some (.string s,.nil):=by simp [rd,hko]
   exact ⟨s,he.symm,hl s hp,rg_of hrd,_,hrd⟩
 have hperm:=Go.WideShapes.sorted_perm (ents.map (rg P k Rany))
 have hkk : (ents.map (rg P k Rany)).map (fun p=>strOf p.1) = mkeys es:=by
   refine encStr_map_inj ?_
   rw [← hkeys,List.map_map,List.map_map]
   refine List.map_congr_left fun x hx=>?_
   obtain ⟨s,e1,_,e2,_⟩:=hread x hx
   simp [e2,e1,strOf]
 refine ⟨.map ((ents.map (rg P k Rany)).foldr DataW.insert []),⟨List.toArray ents,clock,hb,⟨by simp [hlen]; exact hs,(stamped_iff _ _).2 ⟨hB.2,hB.1.imp fun h=>by omega,?_⟩,fun x hx=>(hread x hx).choose_spec.2.2.2⟩,by simp [hlen],rfl⟩,?_,?_⟩
 · have h1 : (ents.map (·.key)).Pairwise (· ≠ ·):=by
     rw [hkeys]
     exact List.pairwise_map.2 (hn.imp fun hne e=>hne (encStr_inj e))
   exact List.pairwise_map.1 h1
 · show List.length _ = _
   rw [hperm.length_eq,List.length_map,hlen]
 · show (List.map (fun p=>strOf (Prod.fst p)) _).Perm _
   rw [← hkk]
   exact hperm.map _
theorem mapsKeys_fn (es : List (El .str × El .adr)) : Fn Tryz.prog 104 [.c (.one (.mp 1001))] [(1001,.map .str .adr es)] [2001] (.c (.one (.clo 130 [.p 2001 0]))) [(2001,.cells [.mp 1001]),(1001,.map .str .adr es)]:=by
 refine Fn.of tblOK [] _ _ _ _ _ Tryz.func104 rfl rfl (by kernel_rfl) (by kernel_rfl) rfl (drawOK tblOK) rfl ?_
 refine ⟨rfl,?_⟩
 exact ⟨_,_,_,Le.ren 1 2001 rfl,rfl,rfl,⟨rfl,rfl,trivial⟩,rfl⟩
theorem Sl.denStr {I D : Nat → Prop} {w : World} {v : Value} {l : List (List UInt8)} (h : Sl D w 1 v l.length (l.map encStr)) (hD : ∀ b,b < w.heap.size → D b → I b) : DenU I w (.sl .str) l (fun _=>some v):=by
 obtain ⟨_,A,c,h0,h1,h2,h3⟩:=h
 refine ⟨A,c,congrArg some h0,h1,h2,fun hp=>?_⟩
 obtain ⟨b,o,hA,hb,hlt,hx⟩:=h3 hp
 refine ⟨b,o,hA,hD b hlt hb,fun i x hi=>?_⟩
 have:=hx i (encStr x) (by rw [List.getElem?_map,show l[i]? = some x from hi]; rfl)
 simpa [DenU,sz,encStr] using this
theorem sortsIn (m : Nat) : AnyZ.SortsIn Tryz.prog Tryz.sorted103_ren Fence.wide m :=
 ⟨fun blk off cap ss W hH hblk hsz=>callsIn_wide.2 (AnyM.slices_Sort_string Tryz.sort129 blk off cap ss W hH hblk hsz),
  fun p cap W=>callsIn_wide.2 (AnyM.slices_Sort_string_none Tryz.sort129 p cap W)⟩
theorem sortedKeys_fn (es : List (El .str × El .adr)) (hn : (mkeys es).Nodup) (hl : ∀ s ∈ mkeys es,s.length ≤ maxLen) (hs : es.length ≤ 4294967296) :
   Fn Tryz.prog 103 [.c (.one (.clo 130 [.p 2001 0]))] [(2001,.cells [.mp 1001]),(1001,.map .str .adr es)] [] (vL .str (keysS es)) [(2001,.cells [.mp 1001]),(1001,.map .str .adr es)]:=by
 refine ⟨by kernel_rfl,fun ρ F I w vals hI hH hF hdj hlen hden=>?_⟩
 match vals,hlen with
 | [v],_ =>
   obtain ⟨vs,hv,w0,r,hvs,hw0,hr⟩:=hden 0 _ v rfl rfl
   have hr : r = []:=hr
   have hw0 : w0 = .pointer (some ⟨(ρ 2001).blk,0,none⟩):=hw0
   subst hr hw0 hvs hv
   obtain ⟨_,vs,T,hb1,hvs⟩:=hH 2001 _ rfl
   obtain ⟨x,r,hvs,hx,hr⟩:=hvs
   have hr : r = []:=hr
   have hx : x = .map (some (ρ 1001).blk):=hx
   subst hr hx hvs
   obtain ⟨_,ents,clock,hb2,hm,hB⟩:=hH 1001 _ rfl
   have hmaxl : (4294967296 : Nat) ≤ maxLen:=by decide
   obtain ⟨D0,hown,hsz,hperm⟩:=owns_of_map (P:=Tryz.prog) (k:=9) (by kernel_rfl) hb2 hm hB hn hl (by omega)
   have hlt : (ρ 2001).blk < w.heap.size:=lt_of_heap hb1
   have hseq : SeqGives Fence.wide 2 Tryz.prog 130 #[.pointer (some ⟨(ρ 2001).blk,0,none⟩)] encStr (fun ss=>ss.Perm (strKeys D0)) (Maps.size D0) w :=
     AnyZ.keys_gives (ρ:=Tryz.keys104_ren) { Tryz.keys104 with } Fence.wide _ trivial rfl (by omega) (ρ 2001).blk (ρ 1001).blk es.length D0 w hlt (cell_of hb1 rfl) hown
   have hc:=AnyZ.sorted_in Tryz.sorted103 Fence.wide 5 trivial trivial trivial trivial rfl (by omega) (sortsIn _) (enters_of Tryz.func129 (by kernel_rfl) rfl) 130 #[.pointer (some ⟨(ρ 2001).blk,0,none⟩)] trivial (enters_of Tryz.func130 (by kernel_rfl) rfl) _ _ (by rw [hsz]; omega) (by rw [hsz]; omega) _ hseq
   refine (callsIn_wide.1 hc).mono ?_
   rintro e w' ⟨v,ss,rfl,hS,hrow,hnil,hbel⟩
   have hE : Ext I w (fun b=>b < w'.heap.size ∧ (I b ∨ w.heap.size ≤ b)) w':=fun b hbI=>⟨⟨Nat.lt_of_lt_of_le (hI b hbI) hbel.size,.inl hbI⟩,hbel.block b (hI b hbI)⟩
   refine ⟨v,ρ,F,rfl,Fr.of_below hbel,fun _ _=>rfl,_,hE,fun b h=>⟨h.1,h.2.imp id .inr⟩,fun c ch hc=>Holds.stable hE (fun b hb=>hbel.block b (hF c ch hc b hb).1) hbel.size ch (fun _ _=>rfl) (hH c ch hc),fun c ch hc b hb=>?_,fun c c' ch ch' b h1 h2=>hdj c c' ch ch' b h1 h2,?_⟩
   · have:=hF c ch hc b hb
     exact ⟨Nat.lt_of_lt_of_le this.1 hbel.size,fun h=>(by rcases h.2 with h | h; exact this.2 h; omega),.inl ⟨c,ch,hc,hb⟩⟩
   · have hk : ss.mergeSort (fun x y=>decide (x ≤ y)) = keysS es:=Go.mergeSort_of_perm (hS.trans hperm)
     rw [hk] at hrow
     have hsl:=Sl.of_own hrow
     have hln : ss.length = (keysS es).length:=by rw [← hk,List.length_mergeSort]
     rw [hln] at hsl
     exact (hsl.weaken fun i _ hi=>(hrow.lt i hi).1).denStr fun b h1 h2=>⟨h1,.inr h2⟩
/-! Chains: Names,Users. -/
theorem mkeys_chE (L : List Dsk) : mkeys (chE L) = L.map (·.nm):=by
 unfold mkeys chE
 rw [List.map_map]
 rfl
def nmsS (L : List Dsk) : List (List UInt8):=keysS (chE L)
theorem nmsS_mem {L : List Dsk} {n : List UInt8} (h : n ∈ nmsS L) : ∃ d,dk L n = some d:=by
 unfold nmsS keysS at h
 rw [List.mem_mergeSort,mkeys_chE] at h
 obtain ⟨d,hd,e⟩:=List.mem_map.1 h
 cases e2 : dk L n with
 | some d=>exact ⟨d,rfl⟩
 | none =>
   unfold dk at e2
   have:=List.find?_eq_none.1 e2 d hd
   simp [e] at this
theorem nmsS_len (L : List Dsk) : (nmsS L).length = L.length:=by
 unfold nmsS keysS
 rw [List.length_mergeSort,mkeys_chE,List.length_map]
theorem names_fn (bits room : Int) (L : List Dsk) (hN : ChN L) (hl : ∀ d,d ∈ L → d.nm.length ≤ 100000) (h16 : L.length ≤ 100) : Fn Tryz.prog 63 [vP 1001] (chB bits room L) [] (vL .str (nmsS L)) (chB bits room L):=by
 have hk : (mkeys (chE L)).Nodup:=by rw [mkeys_chE]; exact hN.nms
 have hm : ∀ s ∈ mkeys (chE L),s.length ≤ maxLen:=fun s hs=>by
   rw [mkeys_chE] at hs
   obtain ⟨d,hd,rfl⟩:=List.mem_map.1 hs
   exact Nat.le_trans (hl d hd) (by decide)
 have hs : (chE L).length ≤ 4294967296:=by unfold chE; rw [List.length_map]; omega
 refine Fn.of tblOK [] _ _ _ _ _ Tryz.func63 rfl rfl (by kernel_rfl) (by kernel_rfl) rfl (drawOK tblOK) rfl ?_
 refine ⟨_,_,_,_,Fn.ren [(1001,1002),(2001,5001)] (mapsKeys_fn (chE L)),⟨rfl,trivial⟩,rfl,?_⟩
 refine ⟨_,_,_,_,Fn.ren [(1001,1002),(2001,5001)] (sortedKeys_fn (chE L) hk hm hs),⟨rfl,rfl,trivial⟩,rfl,?_⟩
 exact ⟨_,_,_,Le.refl _ _,rfl,rfl,⟨rfl,rfl,rfl,rfl,trivial⟩,rfl⟩
def isUsr (L : List Dsk) (nm n : List UInt8) : Bool:=!decide (nm = []) && decide (((dk L n).map (·.back)).getD [] = nm)
def usrS (L : List Dsk) (nm : List UInt8) : List (List UInt8):=(nmsS L).filter (isUsr L nm)
@[reducible] def usK (nm : List UInt8) (l : List (List UInt8)) (j : Nat) : KL:=[(0,vP 1001),(1,vS nm),(5,vOwn 5002),(9,vL .str l),(10,vI (l.length : Nat)),(11,vI (j : Nat))]
@[reducible] def usK2 (nm : List UInt8) (l : List (List UInt8)) (j : Nat) : KL:=[(0,vP 1001),(1,vS nm),(5,vOwn 33),(9,vL .str l),(10,vI (l.length : Nat)),(11,vI (j : Nat))]
@[reducible] def usB (bits room : Int) (L : List Dsk) (x : List (List UInt8)) : BL:=chB bits room L ++ [(5002,.row 9 .str x)]
@[reducible] def usB2 (bits room : Int) (L : List Dsk) (x : List (List UInt8)) : BL:=chB bits room L ++ [(33,.row 9 .str x)]
set_option maxHeartbeats 1000000 in
theorem users_fn (bits room : Int) (L : List Dsk) (hN : ChN L) (hl : ∀ d,d ∈ L → d.nm.length ≤ 100000) (h16 : L.length ≤ 100) (nm : List UInt8) : Fn Tryz.prog 68 [vP 1001,vS nm] (chB bits room L) [] (vL .str (usrS L nm)) (chB bits room L):=by
 obtain ⟨ia,ia1,ia2⟩:=inf_of infStr
 have hmem:=@nmsS_mem L
 have hlen:=nmsS_len L
 have hnf:=names_fn bits room L hN hl h16
 unfold usrS
 generalize nmsS L = l at *
 refine Fn.of tblOK [5,6,8] _ _ _ _ _ Tryz.func68 rfl rfl (by kernel_rfl) (by kernel_rfl) rfl (drawOK tblOK) rfl ?_
 refine ⟨_,_,_,_,hnf,⟨rfl,rfl,rfl,rfl,trivial⟩,rfl,?_⟩
 show TrQ _ _ _ _ _ _ _
 refine TrQ.loop tblOK (drawOK tblOK) [5,6,8] (by kernel_rfl) (X:=Nat) (usK nm l) (fun j=>usB bits room L ((l.take j).filter (isUsr L nm))) (fun j=>j ≤ l.length) (fun j=>l.length - j) 0 (Nat.zero_le _) ?_ ?_
 · exact (Le.nil 5 5002 9 .str rfl rfl).trans (Le.sub ⟨rfl,rfl,rfl,rfl,rfl,rfl,trivial⟩ ⟨rfl,rfl,rfl,rfl,rfl,trivial⟩)
 intro j hj
 refine ⟨fun h=>?_,fun h=>?_⟩
 · have h : decide ((j : Int) < (l.length : Nat)) = true:=h
   have hj2 : j < l.length:=by simpa using h
   obtain ⟨d,hd⟩:=hmem (List.getElem_mem hj2)
   have hLd:=hN.D (dk_get hd).1
   have hx : (mget (ku:=.str) (vu:=.adr) (chE L) l[j]).getD (dflt .adr) = some d.ad:=by rw [cget,hd]; rfl
   have hu : isUsr L nm l[j] = (!decide (nm = []) && decide (d.back = nm)):=by unfold isUsr; rw [hd]; rfl
   have hstep : (l.take (j + 1)).filter (isUsr L nm) = (l.take j).filter (isUsr L nm) ++ (if isUsr L nm l[j] = true then [l[j]] else []):=by
     rw [List.take_succ_eq_append_getElem hj2,List.filter_append]
     congr 1
     by_cases e : isUsr L nm l[j] = true
     · rw [if_pos e,List.filter_cons_of_pos e]; rfl
     · rw [if_neg e,List.filter_cons_of_neg e]; rfl
   have hfl : ((l.take j).filter (isUsr L nm)).length ≤ j:=Nat.le_trans (List.length_filter_le _ _) (by rw [List.length_take]; omega)
   have m3 : (0 : Int) ≤ (j : Int):=by omega
   have m6 : (-9223372036854775808 : Int) ≤ (j : Int) + 1 ∧ (j : Int) + 1 ≤ 9223372036854775807:=by omega
   have keep : isUsr L nm l[j] = false → (l.take (j + 1)).filter (isUsr L nm) = (l.take j).filter (isUsr L nm):=fun e=>by rw [hstep,if_neg (by rw [e]; decide),List.append_nil]
   refine ⟨m3,l[j],lgAt (n:=j) hj2,?_⟩
   generalize l[j] = n at *
   show TrQ _ _ _ _ _ _ _
   refine TrQ.go tblOK (drawOK tblOK) [6,8] (by kernel_rfl) (Le.sub (K':=(7,vS n) :: usK nm l j) (B':=usB bits room L ((l.take j).filter (isUsr L nm))) ⟨rfl,rfl,rfl,rfl,rfl,rfl,rfl,trivial⟩ ⟨rfl,rfl,rfl,rfl,rfl,trivial⟩) ?_
   refine ⟨fun h1=>?_,fun h1=>?_⟩
   · have h1 : ¬ nm = []:=by
       have h1 : (!decide (nm = [])) = true:=h1
       simpa using h1
     refine ⟨_,_,fun N=>opOK_nilAdr (b:=d.ad) rfl (by exact adrV_eq hx) N,rfl,?_⟩
     refine ⟨_,_,fun N=>opOK_fieldAdr rfl Tryz.underlying130 rfl rfl ia1 (by rw [ia2]; decide) rfl N,rfl,?_⟩
     refine ⟨_,_,fun N=>opOK_loadRaw (q:=1003) rfl Tryz.underlying9 rfl rfl rfl hLd rfl N,rfl,?_⟩
     refine ⟨fun h2=>?_,fun h2=>?_⟩
     · have h2 : d.back = nm:=of_decide_eq_true h2
       have hu2 : isUsr L nm n = true:=by rw [hu,decide_eq_false h1,decide_eq_true h2]; rfl
       rw [if_pos hu2] at hstep
       have m9 : ((l.take j).filter (isUsr L nm)).length + 1 ≤ 4294967296:=by omega
       show TrQ _ _ _ _ _ _ _
       refine TrQ.go tblOK (drawOK tblOK) [] (by kernel_rfl) (Le.sub (K':=(7,vS n) :: usK nm l j) (B':=usB bits room L ((l.take j).filter (isUsr L nm))) ⟨rfl,rfl,rfl,rfl,rfl,rfl,rfl,trivial⟩ ⟨rfl,rfl,rfl,rfl,rfl,trivial⟩) ?_
       refine ⟨m9,rfl,?_⟩
       refine ⟨m6,j + 1,hj2,by omega,?_⟩
       exact Le.trans (Le.sub (K':=usK2 nm l (j + 1)) (B':=usB2 bits room L ((l.take (j + 1)).filter (isUsr L nm))) ⟨rfl,rfl,rfl,rfl,rfl,rfl,trivial⟩ ⟨rfl,rfl,rfl,rfl,congrArg (fun l : List (List UInt8)=>some (Ch.row 9 .str l)) hstep.symm,trivial⟩) (Le.ren 33 5002 rfl)
     · have h2 : ¬ d.back = nm:=of_decide_eq_false h2
       have hk:=keep (by rw [hu,decide_eq_false h2,Bool.and_false])
       exact ⟨m6,j + 1,hj2,by omega,Le.sub ⟨rfl,rfl,rfl,rfl,rfl,rfl,trivial⟩ ⟨rfl,rfl,rfl,rfl,congrArg (fun l : List (List UInt8)=>some (Ch.row 9 .str l)) hk.symm,trivial⟩⟩
   · have h1 : nm = []:=by
       have h1 : (!decide (nm = [])) = false:=h1
       simpa using h1
     have hk:=keep (by rw [hu,decide_eq_true h1]; rfl)
     exact ⟨m6,j + 1,hj2,by omega,Le.sub ⟨rfl,rfl,rfl,rfl,rfl,rfl,trivial⟩ ⟨rfl,rfl,rfl,rfl,congrArg (fun l : List (List UInt8)=>some (Ch.row 9 .str l)) hk.symm,trivial⟩⟩
 · have h : decide ((j : Int) < (l.length : Nat)) = false:=h
   have hj2 : j = l.length:=by simp at h; omega
   subst hj2
   have ht : (l.take l.length).filter (isUsr L nm) = l.filter (isUsr L nm):=by rw [List.take_length]
   show TrQ _ _ _ _ _ _ _
   refine TrQ.go tblOK (drawOK tblOK) [] (by kernel_rfl) (Le.refl _ _) ?_
   exact ⟨_,_,_,Le.frz 5002 rfl,rfl,ht,⟨rfl,rfl,rfl,rfl,trivial⟩,rfl⟩
/-! Chains: Remove. -/
def ldel : List Dsk → List UInt8 → List Dsk
 | [],_=>[]
 | d :: L,nm=>if d.nm = nm then L else d :: ldel L nm
theorem dk_cons (d : Dsk) (L : List Dsk) (nm : List UInt8) : dk (d :: L) nm = if d.nm = nm then some d else dk L nm:=by
 unfold dk
 rw [List.find?_cons]
 by_cases e : d.nm = nm
 · rw [decide_eq_true e,if_pos e]
 · rw [decide_eq_false e,if_neg e]
theorem ldel_mem {L : List Dsk} {nm : List UInt8} {d : Dsk} (h : d ∈ ldel L nm) : d ∈ L:=by
 induction L with
 | nil=>exact h
 | cons e L ih =>
   unfold ldel at h
   split at h
   · exact List.mem_cons_of_mem _ h
   · rcases List.mem_cons.1 h with rfl | h
     · exact List.mem_cons_self ..
     · exact List.mem_cons_of_mem _ (ih h)
theorem ldel_sub (L : List Dsk) (nm : List UInt8) : (ldel L nm).Sublist L:=by
 induction L with
 | nil=>exact .slnil
 | cons e L ih =>
   unfold ldel
   split
   · exact List.sublist_cons_self ..
   · exact ih.cons_cons _
theorem ldel_E (nm : List UInt8) : ∀ L : List Dsk,mdel (ku:=.str) (vu:=.adr) (chE L) nm = chE (ldel L nm)
 | []=>rfl
 | d :: L=>by
   have ih:=ldel_E nm L
   show mdel (ku:=.str) (vu:=.adr) (mkE d :: chE L) nm = _
   rw [show mdel (ku:=.str) (vu:=.adr) (mkE d :: chE L) nm = match eqKey .str (nm : El .str) (mkE d).1 with | true=>chE L | false=>mkE d :: mdel (ku:=.str) (vu:=.adr) (chE L) nm from rfl]
   unfold ldel
   by_cases e : d.nm = nm
   · rw [show eqKey .str (nm : El .str) (mkE d).1 = true from (eqKey_str _ _).2 e.symm,if_pos e]
   · rw [show eqKey .str (nm : El .str) (mkE d).1 = false from eqKey_ne (ku:=.str) eqKey_str (fun h=>e h.symm),if_neg e]
     simp only
     rw [ih]
     rfl
theorem pdel_map {f : Dsk → Nat × Ob} : ∀ {L : List Dsk},(L.map fun d=>(f d).1).Nodup → ∀ {nm : List UInt8} {d0 : Dsk},dk L nm = some d0 → pdel (L.map f) (f d0).1 = (ldel L nm).map f
 | [],_,nm,d0,h=>by cases h
 | d :: L,hn,nm,d0,h=>by
   rw [List.map_cons] at hn
   obtain ⟨n1,n2⟩:=List.nodup_cons.1 hn
   rw [dk_cons] at h
   rw [List.map_cons]
   unfold pdel ldel
   by_cases e : d.nm = nm
   · rw [if_pos e] at h
     injection h with h
     subst h
     rw [if_pos rfl,if_pos e]
   · rw [if_neg e] at h
     have hne : ¬ (f d).1 = (f d0).1:=fun e2=>n1 (by rw [e2]; exact List.mem_map_of_mem (f:=fun d=>(f d).1) (dk_get h).1)
     rw [if_neg hne,if_neg e,List.map_cons,pdel_map n2 h]
theorem ChN.del {L : List Dsk} (h : ChN L) (nm : List UInt8) : ChN (ldel L nm) :=
 ⟨h.nms.sublist ((ldel_sub L nm).map _),h.ads.sublist ((ldel_sub L nm).map _),h.ams.sublist ((ldel_sub L nm).map _)⟩
theorem remove_none (bits room : Int) (L : List Dsk) (nm : List UInt8) (h0 : dk L nm = none) : Fn Tryz.prog 52 [vP 1001,vS nm] (chB bits room L) [] (vI 140) (chB bits room L):=by
 have hx : (mget (ku:=.str) (vu:=.adr) (chE L) nm).getD (dflt .adr) = none:=by rw [cget,h0]; rfl
 refine Fn.of tblOK [] _ _ _ _ _ Tryz.func52 rfl rfl (by kernel_rfl) (by kernel_rfl) rfl (drawOK tblOK) rfl ?_
 refine ⟨fun b' hb=>absurd (show (mget (ku:=.str) (vu:=.adr) (chE L) nm).getD (dflt .adr) = some b' from hb) (by rw [hx]; intro h; cases h),fun _=>?_⟩
 exact ⟨_,_,_,Le.refl _ _,rfl,rfl,⟨rfl,rfl,rfl,rfl,trivial⟩,rfl⟩
theorem remove_use (bits room : Int) (L : List Dsk) (hN : ChN L) (hl : ∀ d,d ∈ L → d.nm.length ≤ 100000) (h16 : L.length ≤ 100) (nm : List UInt8) (d0 : Dsk) (h0 : dk L nm = some d0) (hu : usrS L nm ≠ []) : Fn Tryz.prog 52 [vP 1001,vS nm] (chB bits room L) [] (vI 143) (chB bits room L):=by
 have hx : (mget (ku:=.str) (vu:=.adr) (chE L) nm).getD (dflt .adr) = some d0.ad:=by rw [cget,h0]; rfl
 have huf:=users_fn bits room L hN hl h16 nm
 have hpos : 0 < (usrS L nm).length:=List.length_pos_iff.2 hu
 generalize usrS L nm = us at *
 refine Fn.of tblOK [] _ _ _ _ _ Tryz.func52 rfl rfl (by kernel_rfl) (by kernel_rfl) rfl (drawOK tblOK) rfl ?_
 refine ⟨fun b' hb=>?_,fun hb=>absurd (show (mget (ku:=.str) (vu:=.adr) (chE L) nm).getD (dflt .adr) = none from hb) (by rw [hx]; intro h; cases h)⟩
 refine ⟨_,_,_,_,huf,⟨rfl,rfl,rfl,rfl,trivial⟩,rfl,?_⟩
 refine ⟨fun _=>?_,fun h=>?_⟩
 · exact ⟨_,_,_,Le.refl _ _,rfl,rfl,⟨rfl,rfl,rfl,rfl,trivial⟩,rfl⟩
 · exfalso
   have h : ¬ (0 : Int) < ((us.length : Nat) : Int):=of_decide_eq_false h
   omega
theorem remove_fn (bits room : Int) (L : List Dsk) (hN : ChN L) (hl : ∀ d,d ∈ L → d.nm.length ≤ 100000) (h16 : L.length ≤ 100) (nm : List UInt8) (d0 : Dsk) (h0 : dk L nm = some d0) (hu : usrS L nm = []) : Fn Tryz.prog 52 [vP 1001,vS nm] (chB bits room L) [] (vI 0) (chB bits room (ldel L nm)):=by
 have hx : (mget (ku:=.str) (vu:=.adr) (chE L) nm).getD (dflt .adr) = some d0.ad:=by rw [cget,h0]; rfl
 have huf:=users_fn bits room L hN hl h16 nm
 rw [hu] at huf
 have hLd:=hN.D (dk_get h0).1
 have hLm:=hN.M (dk_get h0).1
 have eE:=ldel_E nm L
 have eD : pdel (chD L) d0.ad = chD (ldel L nm):=pdel_map (f:=fun d=>(d.ad,dskO d.am d.back)) hN.ads h0
 have eM : pdel (chM L) d0.am = chM (ldel L nm):=pdel_map (f:=fun d=>(d.am,imX d)) hN.ams h0
 refine Fn.of tblOK [5] _ _ _ _ _ Tryz.func52 rfl rfl (by kernel_rfl) (by kernel_rfl) rfl (drawOK tblOK) rfl ?_
 refine ⟨fun b' hb=>?_,fun hb=>absurd (show (mget (ku:=.str) (vu:=.adr) (chE L) nm).getD (dflt .adr) = none from hb) (by rw [hx]; intro h; cases h)⟩
 refine ⟨_,_,_,_,huf,⟨rfl,rfl,rfl,rfl,trivial⟩,rfl,?_⟩
 refine ⟨fun h=>absurd h (by decide),fun _=>?_⟩
 show TrQ _ _ _ _ _ _ _
 refine TrQ.go tblOK (drawOK tblOK) [] (by kernel_rfl) (Le.sub (K':=[(0,vP 1001),(1,vS nm)]) (B':=chB bits room L) ⟨rfl,rfl,trivial⟩ ⟨rfl,rfl,rfl,rfl,trivial⟩) ?_
 exact ⟨_,_,_,(Le.takeOut 1003 5001 d0.ad rfl hLd rfl).trans (Le.takeOut 1004 5002 d0.am rfl hLm rfl),rfl,rfl,⟨rfl,congrArg (fun e=>some (Ch.map .str .adr e)) eE,congrArg (fun e=>some (Ch.obj (.pool e))) eD,congrArg (fun e=>some (Ch.obj (.pool e))) eM,trivial⟩,rfl⟩
end Go.Proofs.YteoamepgonpdlaaGreat
/-!
  files.Right: whether a name may be.
-/
namespace Go.Proofs.YteoamepgonpdlaaGreat
open Go.RowKit
/-- A sign of a name. -/
def signB (c : UInt8) : Bool:=(97 ≤ c.toNat && c.toNat ≤ 122) || (48 ≤ c.toNat && c.toNat ≤ 57) || c.toNat == 46 || c.toNat == 45
/-- Whether a name may be. -/
def rightN (s : ByteArray) : Bool:=decide (1 ≤ s.size) && decide (s.size ≤ 15) && s.data.toList.all signB
theorem decode_high (s : ByteArray) (pos : Nat) (h : pos < s.size) (ha : ¬ (s[pos]'h).toNat < 128) : 128 ≤ (Utf8.decode s pos).1 ∧ (Utf8.decode s pos).1 ≤ 1114111:=by
 have e : s.get! (pos + 0) = s[pos]'h:=by
   show s.get! pos = _
   simp [ByteArray.get!,getElem!_pos,h]
   rfl
 have hb : (s[pos]'h).toNat < 256:=(s[pos]'h).toNat_lt
 unfold Utf8.decode
 simp only [e]
 rw [if_neg (by omega)]
 split
 · split <;> simp [Utf8.runeError] <;> omega
 · split
   · split
     · rename_i h2; simp [Utf8.valid] at h2; simp only; omega
     · simp [Utf8.runeError]
   · split
     · split
       · rename_i h2; simp [Utf8.valid] at h2; simp only; omega
       · simp [Utf8.runeError]
     · simp [Utf8.runeError]
theorem run_next_any {P : Program} (w : World) (s : ByteArray) (pos : Nat) (ty : TypeId) (h : pos < s.size) :
   (Instr.next (.pointer (some ⟨w.heap.size,0,none⟩)) true ty).run P (w.iter s pos) =
     .ok (.tuple #[.bool true,.int .i64 pos,.int .i32 (Utf8.decode s pos).1]) (w.iter s (pos + (Utf8.decode s pos).2)):=by
 simp only [Instr.next,getObj,setObj,Sem.run_bind,Sem.run,World.iter_heap,Result.andThen,h,if_true]
 simp [goInt,World.iter_set]
theorem rightN_bad {s : ByteArray} {j : Nat} (hj : j < s.size) (h : signB (s[j]'hj) = false) : rightN s = false:=by
 unfold rightN
 have : s.data.toList.all signB = false:=by
   rw [List.all_eq_false]
   exact ⟨s[j]'hj,List.getElem_mem (by simpa using hj),by simp [h]⟩
 rw [this,Bool.and_false]
def posAt (B : Nat) (w : World) : Nat:=match w.heap[B]? with | some (.stringIter _ p)=>p | _=>0
theorem posAt_iter (w : World) (s : ByteArray) (k : Nat) : posAt w.heap.size (w.iter s k) = k:=by simp [posAt,World.iter_heap]
theorem iter_below (w : World) (s : ByteArray) (k : Nat) : Below w.heap.size w (w.iter s k):=(Below.refl _ _).alloc (Nat.le_refl _) _
theorem sign_step {s : ByteArray} {k : Nat} (h : ∀ j (hj : j < s.size),j < k → signB (s[j]'hj) = true) (hk : k < s.size) (h1 : signB (s[k]'hk) = true) : ∀ j (hj : j < s.size),j < k + 1 → signB (s[j]'hj) = true:=by
 intro j hj hlt
 by_cases e : j = k
 · subst e; exact h1
 · exact h j hj (by omega)
theorem rightN_all {s : ByteArray} (h : ∀ j (hj : j < s.size),signB (s[j]'hj) = true) : rightN s = (decide (1 ≤ s.size) && decide (s.size ≤ 15)):=by
 unfold rightN
 have : s.data.toList.all signB = true:=by
   rw [List.all_eq_true]
   intro x hx
   obtain ⟨j,hj,rfl⟩:=List.getElem_of_mem hx
   exact h j (by simpa using hj)
 rw [this,Bool.and_true]
set_option maxHeartbeats 1000000 in
theorem files_Right (s : ByteArray) (w : World) (hs : s.size ≤ maxLen) :
   Calls Tryz.prog 87 #[.string s] w fun e w'=>e = .returned (.bool (rightN s)) ∧ Below w.heap.size w w':=by
 unfold maxLen at hs
 go_enter Tryz.func87,Tryz.ntmps87
 go_wp2
 go_loopw [4,7,8,9,10,11,12,13,14,15,16,17,18,19,20,21,22,23,24,25,26,27,28,29,30,31] (fun _ _ _ _ _ _ _ _ _ _ _ _ _ _ _ _ _ _ _ _ _ _ _ _ _ _ wr=>∃ k : Nat,k ≤ s.size ∧ wr = w.iter s k ∧ ∀ j (hj : j < s.size),j < k → signB (s[j]'hj) = true) (fun _ _ _ _ _ _ _ _ _ _ _ _ _ _ _ _ _ _ _ _ _ _ _ _ _ _ wr=>s.size - posAt w.heap.size wr)
 case atStart=>exact ⟨0,Nat.zero_le _,rfl,fun _ _ h=>absurd h (by omega)⟩
 case round =>
   obtain ⟨k,hk,rfl,hall⟩:=hrel
   have Hall:=Lib.hid hall
   clear hall
   by_cases hlt : k < s.size
   · by_cases ha : (s[k]'hlt).toNat < 128
     · have hn:=fun ty=>run_next_ascii (P:=Tryz.prog) w s k ty hlt ha
       go_wp2
       all_goals first
         | (refine ⟨⟨k + 1,hlt,rfl,sign_step Hall.out hlt ?_⟩,?_⟩
            · clear hn; simp_all [signB]; omega
            · rw [posAt_iter,posAt_iter]; omega)
         | (go_ret
            refine ⟨?_,iter_below _ _ _⟩
            rw [rightN_bad hlt (by clear hn; simp_all [signB]; omega)]; rfl)
     · obtain ⟨d1,d2⟩:=decode_high s k hlt ha
       have hn:=fun ty=>run_next_any (P:=Tryz.prog) w s k ty hlt
       generalize Utf8.decode s k = d at *
       have b1 : (((d.1 : Nat) : Int) != 46) = true:=by rw [bne_iff_ne]; omega
       have b2 : (((d.1 : Nat) : Int) != 45) = true:=by rw [bne_iff_ne]; omega
       go_wp2
       go_ret
       exact ⟨by rw [rightN_bad hlt (by clear hn; simp [signB]; omega)]; rfl,iter_below _ _ _⟩
   · have hn:=fun ty=>run_next_end (P:=Tryz.prog) w s k ty hlt
     have hk2 : k = s.size:=by omega
     have hr : rightN s = (decide (1 ≤ s.size) && decide (s.size ≤ 15)):=rightN_all fun j hj=>Hall.out j hj (by omega)
     clear hk2 Hall
     have Hr:=Lib.hid hr
     clear hr
     go_wp2
     all_goals
       go_ret
       refine ⟨?_,iter_below _ _ _⟩
       rw [Hr.out]
       refine congrArg (fun b=>Ending.returned (.bool b)) ?_
       rw [Bool.eq_iff_iff]
       simp
       omega
end Go.Proofs.YteoamepgonpdlaaGreat
/-!
  Contracts that were walked by hand: functions that write nothing of the caller's.
-/
namespace Go.Proofs.YteoamepgonpdlaaGreat
set_option linter.unusedVariables false
set_option linter.unusedSimpArgs false
open Go.RowKit
theorem Fn.pure {P : Program} {f : FuncId} {args : List SV} {res : SV} (hcall : callable P f = true)
   (h : ∀ (ρ : Nat → Pl) (I : Nat → Prop) (w : World) (vals : List Value),(∀ b,I b → b < w.heap.size) → vals.length = args.length → (∀ (i : Nat) (v : SV) (x : Value),args[i]? = some v → vals[i]? = some x → DenV ρ I w v x) →
     Calls P f vals.toArray w fun e w'=>∃ x,e = .returned x ∧ Below w.heap.size w w' ∧ ∀ I' : Nat → Prop,Ext I w I' w' → (∀ b,w.heap.size ≤ b → b < w'.heap.size → I' b) → DenV ρ I' w' res x) : Fn P f args [] [] res []:=by
 refine ⟨hcall,?_⟩
 intro ρ F I w vals hI _ _ _ hlen hden
 refine (h ρ I w vals hI hlen hden).mono ?_
 rintro e w' ⟨x,rfl,hb,hx⟩
 have hE : Ext I w (fun b=>b < w'.heap.size ∧ (I b ∨ w.heap.size ≤ b)) w':=fun b hbI=>⟨⟨Nat.lt_of_lt_of_le (hI b hbI) hb.size,.inl hbI⟩,hb.block b (hI b hbI)⟩
 exact ⟨x,ρ,F,rfl,Fr.of_below hb,fun _ _=>rfl,_,hE,fun b h=>⟨h.1,h.2.imp id .inr⟩,fun c ch hc=>(by simp [lookB] at hc),fun c ch hc=>(by simp [lookB] at hc),fun c c' ch ch' b hc=>(by simp [lookB] at hc),hx _ hE fun b h1 h2=>⟨h2,.inr h1⟩⟩
theorem one_arg {P : Program} {f : FuncId} {s : SV} {res : SV} (hcall : callable P f = true)
   (h : ∀ (ρ : Nat → Pl) (I : Nat → Prop) (w : World) (v : Value),(∀ b,I b → b < w.heap.size) → DenV ρ I w s v →
     Calls P f #[v] w fun e w'=>∃ x,e = .returned x ∧ Below w.heap.size w w' ∧ ∀ I' : Nat → Prop,Ext I w I' w' → (∀ b,w.heap.size ≤ b → b < w'.heap.size → I' b) → DenV ρ I' w' res x) : Fn P f [s] [] [] res [] :=
 Fn.pure hcall fun ρ I w vals hI hl hd=>by
   match vals,hl with
   | [v],_=>exact h ρ I w v hI (hd 0 s v rfl rfl)
theorem DenU.bytes {I : Nat → Prop} {w : World} {v : Value} {l : List UInt8} (hI : ∀ b,I b → b < w.heap.size) (h : DenU I w (.sl .u8) l (fun _=>some v)) : Bytes I w v l:=by
 obtain ⟨A,cap,h0,h1,h2,h3⟩:=h
 injection h0 with h0
 refine ⟨by simp,A,cap,h0,h1,h2,fun hp=>?_⟩
 obtain ⟨b,o,hA,hb,hx⟩:=h3 hp
 refine ⟨b,o,hA,hb,hI b hb,fun j u hu=>?_⟩
 rw [List.getElem?_map] at hu
 obtain ⟨x,hx1,rfl⟩:=Option.map_eq_some_iff.1 hu
 have:=hx j x hx1
 simpa [DenU,sz,byteV] using this
/-- Whether a name may be. -/
def nameOK (s : List UInt8) : Bool:=decide (1 ≤ s.length) && decide (s.length ≤ 15) && s.all signB
theorem files_Right_fn (s : List UInt8) (hs : s.length ≤ 4294967296) : Fn Tryz.prog 87 [vS s] [] [] (vB (nameOK s)) [] :=
 one_arg (by kernel_rfl) fun ρ I w v hI hv=>by
   rw [show v = .string ⟨s.toArray⟩ from hv]
   refine (files_Right ⟨s.toArray⟩ w (by simp only [ByteArray.size,maxLen,List.size_toArray]; omega)).mono ?_
   rintro e w' ⟨rfl,hb⟩
   exact ⟨_,rfl,hb,fun I' _ _=>show Value.bool _ = Value.bool _ by simp [rightN,nameOK,ByteArray.size]⟩
end Go.Proofs.YteoamepgonpdlaaGreat
