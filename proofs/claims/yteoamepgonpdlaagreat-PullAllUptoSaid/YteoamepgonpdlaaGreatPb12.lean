/-
Part 12 of the proof that stands in YteoamepgonpdlaaGreatPbRow, with what it needs from the parts ahead; the parts of this text: Co, Dp.
-/
import Derived.Test.YteoamepgonpdlaaGreatPb11
/-!
  Chains: Add.
-/
namespace Go.Proofs.YteoamepgonpdlaaGreat
set_option linter.unusedVariables false
set_option linter.unusedSimpArgs false
set_option maxRecDepth 10000
open Go.RowKit Go.Proofs
theorem poolR.perm {I : Nat → Prop} {w : World} {L L' : List (Nat × Ob)} (h : L.Perm L') : ∀ {F : Nat → Prop},poolR I w L F → poolR I w L' F:=by
 induction h with
 | nil=>exact fun h=>h
 | cons x h ih =>
   rintro F ⟨F1,F2,p,h1,h2,h3,h4,h5⟩
   exact ⟨F1,F2,p,h1,h2,h3,h4,ih h5⟩
 | swap x y l =>
   rintro F ⟨F1,F2,p,h1,h2,h3,h4,G1,G2,r,g1,g2,g3,g4,g5⟩
   refine ⟨G1,fun z=>F1 z ∨ G2 z,r,fun z=>by rw [h1,g1]; exact or_swap,fun z hz hy=>?_,g3,g4,F1,G2,p,fun z=>Iff.rfl,fun z hz hy=>h2 z hz ((g1 z).2 (.inr hy)),h3,h4,g5⟩
   rcases hy with hy | hy
   · exact h2 z hy ((g1 z).2 (.inl hz))
   · exact g2 z hz hy
 | trans _ _ ih1 ih2=>exact fun h=>ih2 (ih1 h)
theorem Le.perm {ids : List Nat} {K : KL} {B : BL} (q : Nat) {L L' : List (Nat × Ob)} (hp : L.Perm L') (hq : lookB B q = some (.obj (.pool L))) : Le ids K B K ((q,.obj (.pool L')) :: B):=by
 rintro N C a w ⟨hn,hd,ρ,F,hM,hS⟩
 obtain ⟨hM',hE⟩:=hM.turn (w':=w) (ch:=.obj (.pool L')) hq (Fr.refl _ _) fun I hI=>((hM.holds q _ hq : poolR _ w L (F q)).perm hp).stable hI (Nat.le_refl _) fun _ _=>rfl
 exact ⟨hn,hd,ρ,F,hM',hS.mono hE fun _ _ _=>rfl⟩
theorem imO_anch {s : ImS} : (imO s).anch:=by
 rintro I F w p ⟨ρ,G,h1,h2,h3,h4⟩
 obtain ⟨hF,_⟩:=h2 1001 _ rfl
 exact (h4 _).2 ⟨1001,_,rfl,(hF _).2 (by rw [h1])⟩
/-- No image's place is told. -/
def Unp (L : List Dsk) : Prop:=∀ d,d ∈ L → d.pin = none
theorem imX_none {d : Dsk} (h : d.pin = none) : imX d = imO d.im:=by unfold imX; rw [h]
theorem chM_anch (L : List Dsk) (hL : Unp L) : ∀ p ∈ chM L,p.2.anch:=fun p hp=>by
 obtain ⟨d,hd,rfl⟩:=List.mem_map.1 hp
 show (imX d).anch
 rw [imX_none (hL d hd)]
 exact imO_anch
theorem chD_anch (L : List Dsk) : ∀ p ∈ chD L,p.2.anch:=fun p hp=>by
 obtain ⟨d,_,rfl⟩:=List.mem_map.1 hp
 exact fun I F w p h=>(h.1 _).2 rfl
theorem inew_okO (bits size room : Nat) (h1 : bits ≤ 3) (h2 : size ≤ 256) (h3 : room ≤ 512) : Fn Tryz.prog 47 [vI (bits : Int),vI (size : Int),vI (room : Int)] [] [1001] (.tup [.one (.ptr 1001 0),vErr 0]) [(1001,.obj (imO (iNew bits size room)))]:=by
 refine Fn.of tblOK [3] _ _ _ _ _ Tryz.func47 rfl rfl (by kernel_rfl) (by kernel_rfl) rfl (drawOK tblOK) rfl ?_
 refine ⟨_,_,_,_,Fn.ren [(1001,1002),(1002,2002)] (tnew_ok size h2),trivial,rfl,?_⟩
 refine ⟨_,_,_,_,Fn.ren [(1001,1003),(1002,2003)] (cnew_ok (room : Int) (by omega) (by omega)),trivial,rfl,?_⟩
 show TrQ _ _ _ _ _ _ _
 refine TrQ.go tblOK (drawOK tblOK) [] (by kernel_rfl) (Le.sub (K':=[(0,vI (bits : Int)),(8,vP 1002),(9,vI 0),(10,vP 1003),(11,vI 0)]) (B':=[(1002,.obj (tabO (List.replicate size s0))),(1003,.obj (cntO (List.replicate room (0 : Int))))]) ⟨rfl,rfl,rfl,rfl,rfl,trivial⟩ ⟨rfl,rfl,trivial⟩) ?_
 refine ⟨fun h=>absurd h (by decide),fun _=>?_⟩
 refine ⟨fun h=>absurd h (by decide),fun _=>?_⟩
 refine ⟨fun h=>?_,fun h=>?_⟩
 · exfalso
   have h : (bits : Int) < 0:=of_decide_eq_true h
   omega
 refine ⟨fun h=>?_,fun h=>?_⟩
 · exfalso
   have h : (3 : Int) < (bits : Int):=of_decide_eq_true h
   omega
 refine ⟨rfl,?_⟩
 refine ⟨rfl,?_⟩
 exact ⟨_,_,_,Le.trans (Le.trans (Le.ren 41 1001 rfl) (Le.trans (Le.ren 39 1004 rfl) (Le.dataEmp 1004 rfl))) (Le.close 1001 (imB (iNew bits size room)) ⟨rfl,rfl,rfl,rfl,trivial⟩ rfl fun _ _ _ _ h=>h),rfl,⟨rfl,rfl,trivial⟩,⟨rfl,trivial⟩,rfl⟩
@[reducible] def mkX (nm : List UInt8) (x : El .adr) : El .str × El .adr:=((nm : El .str),x)
theorem mput_new (nm : List UInt8) (x : El .adr) : ∀ L : List Dsk,dk L nm = none → mput (ku:=.str) (vu:=.adr) (chE L) (nm : El .str) x = (chE L ++ [mkX nm x] : List (El .str × El .adr))
 | [],_=>rfl
 | d :: L,h=>by
   rw [dk_cons] at h
   by_cases e : d.nm = nm
   · rw [if_pos e] at h; cases h
   · rw [if_neg e] at h
     have ih:=mput_new nm x L h
     show mput (ku:=.str) (vu:=.adr) (mkE d :: chE L) (nm : El .str) x = _
     rw [show mput (ku:=.str) (vu:=.adr) (mkE d :: chE L) (nm : El .str) x = (match eqKey .str (nm : El .str) (mkE d).1 with | true=>mkX nm x :: chE L | false=>mkE d :: mput (ku:=.str) (vu:=.adr) (chE L) (nm : El .str) x : List (El .str × El .adr)) from rfl]
     rw [show eqKey .str (nm : El .str) (mkE d).1 = false from eqKey_ne (ku:=.str) eqKey_str (fun h=>e h.symm)]
     simp only
     rw [ih]
     rfl
@[reducible] def adD (L : List Dsk) (nm back : List UInt8) (ad am : Nat) (im : ImS) : List Dsk:=L ++ [⟨nm,back,ad,am,im,none⟩]
theorem ChN.add {L : List Dsk} (h : ChN L) {nm back : List UInt8} {ad am : Nat} {im : ImS} (h0 : dk L nm = none) (ha : ad ∉ L.map (·.ad)) (hm : am ∉ L.map (·.am)) : ChN (adD L nm back ad am im):=by
 have key : ∀ {α : Type} (f : Dsk → α) (d : Dsk),(L.map f).Nodup → f d ∉ L.map f → ((L ++ [d]).map f).Nodup:=fun f d h1 h2=>by
   rw [List.map_append]
   refine List.nodup_append.2 ⟨h1,by simp,fun a ha b hb e=>?_⟩
   rw [List.map_cons,List.map_nil,List.mem_singleton] at hb
   exact h2 (by rw [← hb,← e]; exact ha)
 refine ⟨key _ _ h.nms fun hx=>?_,key _ _ h.ads ha,key _ _ h.ams hm⟩
 obtain ⟨d,hd,e⟩:=List.mem_map.1 hx
 have:=List.find?_eq_none.1 h0 d hd
 exact this (by simpa using e)
@[reducible] def adK (nm back : List UInt8) : KL:=[(0,vP 1001),(1,vS nm),(3,vS back),(9,vP 2001),(10,vI 0)]
@[reducible] def adB (bits room : Int) (L : List Dsk) (im : ImS) : BL:=chB bits room L ++ [(2001,.obj (imO im))]
theorem chE_add (L : List Dsk) (nm back : List UInt8) (ad am : Nat) (im : ImS) : chE (adD L nm back ad am im) = (chE L ++ [mkX nm (some ad : Option Nat)] : List (El .str × El .adr)):=by
 induction L with
 | nil=>rfl
 | cons d L ih =>
   show mkE d :: chE (adD L nm back ad am im) = mkE d :: (chE L ++ [mkX nm (some ad : Option Nat)])
   rw [ih]
@[reducible] def adE (L : List Dsk) (nm back : List UInt8) (am : Nat) (im : ImS) : List Dsk:=⟨nm,back,0,am,im,none⟩ :: L
theorem cons_perm {f : Dsk → Nat × Ob} (L : List Dsk) (d : Dsk) : (f d :: L.map f).Perm ((L ++ [d]).map f):=by
 rw [List.map_append]
 exact List.perm_append_comm (l₁:=[f d]) (l₂:=L.map f)
@[reducible] def adK2 (nm back : List UInt8) (am : Nat) : KL:=[(0,vP 1001),(1,vS nm),(3,vS back),(9,vAd am)]
@[reducible] def adB2 (bits room : Int) (L : List Dsk) (am : Nat) (im : ImS) : BL:=[(1001,.cells (chC bits room)),(1002,.map .str .adr (chE L)),(1003,.obj (.pool (chD L))),(1004,.obj (.pool ((am,imO im) :: chM L)))]
theorem add_ok (bits size room : Nat) (h1 : bits ≤ 3) (h2 : size ≤ 256) (h3 : room ≤ 512) (L : List Dsk) (hN : ChN L) (hP : Unp L) (nm back : List UInt8) (hl : nm.length ≤ 4294967296) (hr : nameOK nm = true) (h0 : dk L nm = none) (h16 : L.length < 16) (k : Nat) (hb : back = [] ∨ (dk L back).isSome = true ∧ Dn L back k ∧ k + 1 ≤ 8) :
   FnX Tryz.prog 49 [vP 1001,vS nm,vI (size : Int),vS back] (chB bits room L) [] (X:={ p : Nat × Nat // ChN (adD L nm back p.1 p.2 (iNew bits size room)) }) (fun _=>vI 0) (fun p=>chB bits room (adD L nm back p.1.1 p.1.2 (iNew bits size room))):=by
 have hx : (mget (ku:=.str) (vu:=.adr) (chE L) nm).getD (dflt .adr) = none:=by rw [cget,h0]; rfl
 have hlen : (chE L).length = L.length:=List.length_map ..
 have hkn:=known_fn bits room L back
 have hkb : (decide (back = []) || (dk L back).isSome) = true:=by
   rcases hb with hb | ⟨hb,_⟩
   · rw [decide_eq_true hb]; rfl
   · rw [hb,Bool.or_true]
 rw [hkb] at hkn
 have hnw:=inew_okO bits size room h1 h2 h3
 refine FnX.of tblOK [2,10] _ _ _ _ _ Tryz.func49 rfl rfl (by kernel_rfl) (by kernel_rfl) rfl (drawOK tblOK) rfl ?_
 refine ⟨_,_,_,_,Fn.ren [(1001,2001)] hnw,trivial,rfl,?_⟩
 refine ⟨rfl,?_⟩
 show TrQ _ _ _ _ _ _ _
 refine TrQ.go tblOK (drawOK tblOK) [10] (by kernel_rfl) (Le.sub (K':=adK nm back) (B':=adB bits room L (iNew bits size room)) ⟨rfl,rfl,rfl,rfl,rfl,trivial⟩ ⟨rfl,rfl,rfl,rfl,rfl,trivial⟩) ?_
 refine ⟨_,_,_,_,files_Right_fn _ hl,trivial,rfl,?_⟩
 refine ⟨fun e1=>?_,fun e1=>?_⟩
 · rw [hr] at e1; cases e1
 refine ⟨fun e2=>?_,fun e2=>?_⟩
 · exact absurd e2 (by decide)
 refine ⟨fun b' e3=>?_,fun e3=>?_⟩
 · exfalso
   have : (mget (ku:=.str) (vu:=.adr) (chE L) nm).getD (dflt .adr) = some b':=e3
   rw [hx] at this
   cases this
 refine ⟨fun e4=>?_,fun e4=>?_⟩
 · exfalso
   have e4 : (16 : Int) ≤ ((chE L).length : Int):=of_decide_eq_true e4
   omega
 refine ⟨_,_,_,_,hkn,⟨rfl,rfl,rfl,rfl,trivial⟩,rfl,?_⟩
 refine ⟨fun e5=>absurd e5 (by decide),fun _=>?_⟩
 refine ⟨fun e6=>?_,fun e6=>?_⟩
 focus
   have e6 : ¬ back = []:=by simpa using e6
   obtain ⟨_,hk,hk8⟩:=hb.resolve_left e6
   have hbl:=below_fn bits room L hN back k hk (by omega)
   have hblen:=bl_len hk
   generalize bl L k back = bs at hbl hblen
   refine ⟨_,_,_,_,hbl,⟨rfl,rfl,rfl,rfl,trivial⟩,rfl,?_⟩
   have m1 : -9223372036854775808 ≤ (bs.length : Int) + 1 ∧ (bs.length : Int) + 1 ≤ 9223372036854775807:=by omega
   refine ⟨m1,?_⟩
   refine ⟨fun e7=>?_,fun _=>?_⟩
   · exfalso
     have e7 : (8 : Int) < (bs.length : Int) + 1:=of_decide_eq_true e7
     omega
 all_goals
   show TrQ _ _ _ _ _ _ _
   refine TrQ.leX (LeX.name 9 2001 rfl rfl) fun am=>?_
   refine TrQ.le (K':=adK2 nm back am) (B':=adB2 bits room L am (iNew bits size room)) (Le.trans (Le.put 1004 2001 (by decide) rfl rfl) (Le.sub ⟨rfl,rfl,rfl,rfl,trivial⟩ ⟨rfl,rfl,rfl,rfl,trivial⟩)) ?_
   refine TrQ.leX (LeX.poolNd 1004 (L:=(am,imO (iNew bits size room)) :: chM L) (chM_anch (adE L nm back am (iNew bits size room)) (fun d hd=>(List.mem_cons.1 hd).elim (fun e=>by rw [e]) (hP d))) rfl) fun hnd=>?_
   refine TrQ.regionX tblOK (by kernel_rfl) ?_
   refine ⟨rfl,?_⟩
   refine ⟨_,opS_putPtr (c:=1002) (d:=72) (q:=1003) (ku:=.str) (l:=dskL am back) (h:=fun _=>rfl) rfl Tryz.underlying97 (dk:=.string) (by kernel_rfl) rfl rfl rfl rfl rfl rfl rfl (by decide) (by decide) (by decide) (chD_anch L),fun v e hv=>?_⟩
   obtain ⟨ad,hnb,rfl,rfl⟩:=hv
   have haN : ad ∉ L.map (·.ad):=fun h=>hnb (by unfold chD; rw [List.map_map]; exact h)
   have hmN : am ∉ L.map (·.am):=fun h=>(List.nodup_cons.1 hnd.down).1 (by show am ∈ (chM L).map (·.1); unfold chM; rw [List.map_map]; exact h)
   have eE : mput (ku:=.str) (vu:=.adr) (chE L) (nm : El .str) (some ad : Option Nat) = chE (adD L nm back ad am (iNew bits size room)):=(mput_new nm _ L h0).trans (chE_add L nm back ad am (iNew bits size room)).symm
   exact ⟨⟨(ad,am),hN.add h0 haN hmN⟩,_,_,_,Le.trans (Le.perm 1003 (cons_perm (f:=fun d=>(d.ad,dskO d.am d.back)) L ⟨nm,back,ad,am,iNew bits size room,none⟩) rfl) (Le.perm 1004 (cons_perm (f:=fun d=>(d.am,imX d)) L ⟨nm,back,ad,am,iNew bits size room,none⟩) rfl),rfl,rfl,⟨rfl,congrArg (fun e=>some (Ch.map .str .adr e)) eE,rfl,rfl,trivial⟩,rfl⟩
theorem add_arg (bits room : Int) (size : Int) (L : List Dsk) (nm back : List UInt8) (hl : nm.length ≤ 4294967296) (h : (nameOK nm && newMay bits size room) = false) : Fn Tryz.prog 49 [vP 1001,vS nm,vI size,vS back] (chB bits room L) [] (vI 1) (chB bits room L):=by
 rcases Bool.eq_false_or_eq_true (newMay bits size room) with h2 | h2
 · have hr : nameOK nm = false:=by rw [h2,Bool.and_true] at h; exact h
   unfold newMay at h2
   simp only [Bool.and_eq_true,decide_eq_true_eq] at h2
   obtain ⟨⟨⟨a1,a2⟩,a3,a4⟩,a5,a6⟩:=h2
   obtain ⟨b,rfl⟩:=Int.eq_ofNat_of_zero_le a5
   obtain ⟨z,rfl⟩:=Int.eq_ofNat_of_zero_le a1
   obtain ⟨r,rfl⟩:=Int.eq_ofNat_of_zero_le a3
   have hnw:=inew_okO b z r (by omega) (by omega) (by omega)
   refine Fn.of tblOK [2] _ _ _ _ _ Tryz.func49 rfl rfl (by kernel_rfl) (by kernel_rfl) rfl (drawOK tblOK) rfl ?_
   refine ⟨_,_,_,_,Fn.ren [(1001,2001)] hnw,trivial,rfl,?_⟩
   refine ⟨rfl,?_⟩
   show TrQ _ _ _ _ _ _ _
   refine TrQ.go tblOK (drawOK tblOK) [] (by kernel_rfl) (Le.sub (K':=adK nm back) (B':=adB b r L (iNew b z r)) ⟨rfl,rfl,rfl,rfl,rfl,trivial⟩ ⟨rfl,rfl,rfl,rfl,rfl,trivial⟩) ?_
   refine ⟨_,_,_,_,files_Right_fn _ hl,trivial,rfl,?_⟩
   refine ⟨fun e1=>?_,fun e1=>?_⟩
   · exact ⟨_,_,_,Le.refl _ _,rfl,rfl,⟨rfl,rfl,rfl,rfl,trivial⟩,rfl⟩
   · rw [hr] at e1; cases e1
 · have hnw:=inew_bad bits size room h2
   refine Fn.of tblOK [2] _ _ _ _ _ Tryz.func49 rfl rfl (by kernel_rfl) (by kernel_rfl) rfl (drawOK tblOK) rfl ?_
   refine ⟨_,_,_,_,hnw,trivial,rfl,?_⟩
   refine ⟨rfl,?_⟩
   show TrQ _ _ _ _ _ _ _
   refine TrQ.go tblOK (drawOK tblOK) [] (by kernel_rfl) (Le.sub (K':=[(0,vP 1001),(1,vS nm),(3,vS back),(10,vI 1)]) (B':=chB bits room L) ⟨rfl,rfl,rfl,rfl,trivial⟩ ⟨rfl,rfl,rfl,rfl,trivial⟩) ?_
   refine ⟨_,_,_,_,files_Right_fn _ hl,trivial,rfl,?_⟩
   refine ⟨fun e1=>?_,fun e1=>?_⟩
   · exact ⟨_,_,_,Le.refl _ _,rfl,rfl,⟨rfl,rfl,rfl,rfl,trivial⟩,rfl⟩
   refine ⟨fun e2=>?_,fun e2=>?_⟩
   · exact ⟨_,_,_,Le.refl _ _,rfl,rfl,⟨rfl,rfl,rfl,rfl,trivial⟩,rfl⟩
   · exact absurd e2 (by decide)
theorem add_there (bits size room : Nat) (h1 : bits ≤ 3) (h2 : size ≤ 256) (h3 : room ≤ 512) (L : List Dsk) (nm back : List UInt8) (hl : nm.length ≤ 4294967296) (hr : nameOK nm = true) (h0 : (dk L nm).isSome = true ∨ 16 ≤ L.length) :
   Fn Tryz.prog 49 [vP 1001,vS nm,vI (size : Int),vS back] (chB bits room L) [] (vI 143) (chB bits room L):=by
 have hx : (mget (ku:=.str) (vu:=.adr) (chE L) nm).getD (dflt .adr) = ((dk L nm).map (·.ad) : Option Nat):=cget nm L
 have hlen : (chE L).length = L.length:=List.length_map ..
 have hnw:=inew_okO bits size room h1 h2 h3
 refine Fn.of tblOK [2] _ _ _ _ _ Tryz.func49 rfl rfl (by kernel_rfl) (by kernel_rfl) rfl (drawOK tblOK) rfl ?_
 refine ⟨_,_,_,_,Fn.ren [(1001,2001)] hnw,trivial,rfl,?_⟩
 refine ⟨rfl,?_⟩
 show TrQ _ _ _ _ _ _ _
 refine TrQ.go tblOK (drawOK tblOK) [] (by kernel_rfl) (Le.sub (K':=adK nm back) (B':=adB bits room L (iNew bits size room)) ⟨rfl,rfl,rfl,rfl,rfl,trivial⟩ ⟨rfl,rfl,rfl,rfl,rfl,trivial⟩) ?_
 refine ⟨_,_,_,_,files_Right_fn _ hl,trivial,rfl,?_⟩
 refine ⟨fun e1=>?_,fun e1=>?_⟩
 · rw [hr] at e1; cases e1
 refine ⟨fun e2=>?_,fun e2=>?_⟩
 · exact absurd e2 (by decide)
 refine ⟨fun b' e3=>?_,fun e3=>?_⟩
 · exact ⟨_,_,_,Le.refl _ _,rfl,rfl,⟨rfl,rfl,rfl,rfl,trivial⟩,rfl⟩
 refine ⟨fun e4=>?_,fun e4=>?_⟩
 · exact ⟨_,_,_,Le.refl _ _,rfl,rfl,⟨rfl,rfl,rfl,rfl,trivial⟩,rfl⟩
 · exfalso
   have e4 : ¬ (16 : Int) ≤ ((chE L).length : Int):=of_decide_eq_false e4
   have e3 : (mget (ku:=.str) (vu:=.adr) (chE L) nm).getD (dflt .adr) = none:=e3
   rw [hx] at e3
   rcases h0 with h0 | h0
   · obtain ⟨d,hd⟩:=Option.isSome_iff_exists.1 h0
     rw [hd] at e3
     cases e3
   · omega
theorem add_unk (bits size room : Nat) (h1 : bits ≤ 3) (h2 : size ≤ 256) (h3 : room ≤ 512) (L : List Dsk) (nm back : List UInt8) (hl : nm.length ≤ 4294967296) (hr : nameOK nm = true) (h0 : dk L nm = none) (h16 : L.length < 16) (hb : (decide (back = []) || (dk L back).isSome) = false) :
   Fn Tryz.prog 49 [vP 1001,vS nm,vI (size : Int),vS back] (chB bits room L) [] (vI 140) (chB bits room L):=by
 have hx : (mget (ku:=.str) (vu:=.adr) (chE L) nm).getD (dflt .adr) = none:=by rw [cget,h0]; rfl
 have hlen : (chE L).length = L.length:=List.length_map ..
 have hkn:=known_fn bits room L back
 rw [hb] at hkn
 have hnw:=inew_okO bits size room h1 h2 h3
 refine Fn.of tblOK [2] _ _ _ _ _ Tryz.func49 rfl rfl (by kernel_rfl) (by kernel_rfl) rfl (drawOK tblOK) rfl ?_
 refine ⟨_,_,_,_,Fn.ren [(1001,2001)] hnw,trivial,rfl,?_⟩
 refine ⟨rfl,?_⟩
 show TrQ _ _ _ _ _ _ _
 refine TrQ.go tblOK (drawOK tblOK) [] (by kernel_rfl) (Le.sub (K':=adK nm back) (B':=adB bits room L (iNew bits size room)) ⟨rfl,rfl,rfl,rfl,rfl,trivial⟩ ⟨rfl,rfl,rfl,rfl,rfl,trivial⟩) ?_
 refine ⟨_,_,_,_,files_Right_fn _ hl,trivial,rfl,?_⟩
 refine ⟨fun e1=>?_,fun e1=>?_⟩
 · rw [hr] at e1; cases e1
 refine ⟨fun e2=>?_,fun e2=>?_⟩
 · exact absurd e2 (by decide)
 refine ⟨fun b' e3=>?_,fun e3=>?_⟩
 · exfalso
   have : (mget (ku:=.str) (vu:=.adr) (chE L) nm).getD (dflt .adr) = some b':=e3
   rw [hx] at this
   cases this
 refine ⟨fun e4=>?_,fun e4=>?_⟩
 · exfalso
   have e4 : (16 : Int) ≤ ((chE L).length : Int):=of_decide_eq_true e4
   omega
 refine ⟨_,_,_,_,hkn,⟨rfl,rfl,rfl,rfl,trivial⟩,rfl,?_⟩
 refine ⟨fun _=>?_,fun e5=>absurd e5 (by decide)⟩
 exact ⟨_,_,_,Le.refl _ _,rfl,rfl,⟨rfl,rfl,rfl,rfl,trivial⟩,rfl⟩
theorem add_deep (bits size room : Nat) (h1 : bits ≤ 3) (h2 : size ≤ 256) (h3 : room ≤ 512) (L : List Dsk) (hN : ChN L) (nm back : List UInt8) (hl : nm.length ≤ 4294967296) (hr : nameOK nm = true) (h0 : dk L nm = none) (h16 : L.length < 16) (hb0 : back ≠ []) (hb : (dk L back).isSome = true) (k : Nat) (hk : Dn L back k) (hkl : k ≤ 1000000) (hk8 : 8 < k + 1) :
   Fn Tryz.prog 49 [vP 1001,vS nm,vI (size : Int),vS back] (chB bits room L) [] (vI 142) (chB bits room L):=by
 have hx : (mget (ku:=.str) (vu:=.adr) (chE L) nm).getD (dflt .adr) = none:=by rw [cget,h0]; rfl
 have hlen : (chE L).length = L.length:=List.length_map ..
 have hkn:=known_fn bits room L back
 rw [hb,Bool.or_true] at hkn
 have hnw:=inew_okO bits size room h1 h2 h3
 refine Fn.of tblOK [2] _ _ _ _ _ Tryz.func49 rfl rfl (by kernel_rfl) (by kernel_rfl) rfl (drawOK tblOK) rfl ?_
 refine ⟨_,_,_,_,Fn.ren [(1001,2001)] hnw,trivial,rfl,?_⟩
 refine ⟨rfl,?_⟩
 show TrQ _ _ _ _ _ _ _
 refine TrQ.go tblOK (drawOK tblOK) [] (by kernel_rfl) (Le.sub (K':=adK nm back) (B':=adB bits room L (iNew bits size room)) ⟨rfl,rfl,rfl,rfl,rfl,trivial⟩ ⟨rfl,rfl,rfl,rfl,rfl,trivial⟩) ?_
 refine ⟨_,_,_,_,files_Right_fn _ hl,trivial,rfl,?_⟩
 refine ⟨fun e1=>?_,fun e1=>?_⟩
 · rw [hr] at e1; cases e1
 refine ⟨fun e2=>?_,fun e2=>?_⟩
 · exact absurd e2 (by decide)
 refine ⟨fun b' e3=>?_,fun e3=>?_⟩
 · exfalso
   have : (mget (ku:=.str) (vu:=.adr) (chE L) nm).getD (dflt .adr) = some b':=e3
   rw [hx] at this
   cases this
 refine ⟨fun e4=>?_,fun e4=>?_⟩
 · exfalso
   have e4 : (16 : Int) ≤ ((chE L).length : Int):=of_decide_eq_true e4
   omega
 refine ⟨_,_,_,_,hkn,⟨rfl,rfl,rfl,rfl,trivial⟩,rfl,?_⟩
 refine ⟨fun e5=>absurd e5 (by decide),fun _=>?_⟩
 refine ⟨fun e6=>?_,fun e6=>absurd (by simpa using e6) hb0⟩
 have hbl:=below_fn bits room L hN back k hk hkl
 have hblen:=bl_len hk
 generalize bl L k back = bs at hbl hblen
 refine ⟨_,_,_,_,hbl,⟨rfl,rfl,rfl,rfl,trivial⟩,rfl,?_⟩
 have m1 : -9223372036854775808 ≤ (bs.length : Int) + 1 ∧ (bs.length : Int) + 1 ≤ 9223372036854775807:=by omega
 refine ⟨m1,?_⟩
 refine ⟨fun _=>?_,fun e7=>?_⟩
 · exact ⟨_,_,_,Le.refl _ _,rfl,rfl,⟨rfl,rfl,rfl,rfl,trivial⟩,rfl⟩
 · exfalso
   have e7 : ¬ (8 : Int) < (bs.length : Int) + 1:=of_decide_eq_false e7
   omega
/-! Chains: Rebase. -/
/-- Where a text stands first; -1: nowhere. -/
def idxS (l : List (List UInt8)) (v : List UInt8) : Int:=match l.idxOf? v with
 | some i=>(i : Nat)
 | none=>-1
theorem indexS_fn (l : List (List UInt8)) (v : List UInt8) (hl : l.length ≤ 4294967296) : Fn Tryz.prog 121 [vL .str l,vS v] [] [] (vI (idxS l v)) []:=by
 refine Fn.of tblOK [] _ _ _ _ _ Tryz.func121 rfl rfl (by kernel_rfl) (by kernel_rfl) rfl (drawOK tblOK) rfl ?_
 show TrQ _ _ _ _ _ _ _
 refine TrQ.loop tblOK (drawOK tblOK) [] (by kernel_rfl) (X:=Nat) (fun k=>[(0,vL .str l),(1,vS v),(7,vI (l.length : Nat)),(8,vI (k : Nat))]) (fun _=>[]) (fun k=>k ≤ l.length ∧ ∀ (i : Nat),i < k → l[i]? ≠ some v) (fun k=>l.length - k) 0 ⟨Nat.zero_le _,fun i h=>absurd h (Nat.not_lt_zero _)⟩ ?_ ?_
 · exact Le.sub ⟨rfl,rfl,rfl,rfl,trivial⟩ trivial
 intro k ⟨hk,hp⟩
 refine ⟨fun h=>?_,fun h=>?_⟩
 · have hk1 : k < l.length:=by
     have h : decide ((k : Int) < (l.length : Int)) = true:=h
     simpa using h
   refine ⟨by omega,l[k],lgAt (n:=k) hk1,?_⟩
   refine ⟨fun h2=>?_,fun h2=>?_⟩
   · have h2 : v = l[k]:=of_decide_eq_true h2
     refine ⟨_,_,_,Le.refl _ _,rfl,(show ((k : Nat) : Int) = idxS l v from ?_),trivial,rfl⟩
     have : l.idxOf? v = some k:=by
       rw [List.idxOf?_eq_some_iff]
       refine ⟨hk1,by simp [h2],fun j hj=>?_⟩
       have:=hp j hj
       rw [List.getElem?_eq_getElem (by omega)] at this
       simpa using this
     rw [idxS,this]
   · have h2 : ¬ v = l[k]:=of_decide_eq_false h2
     have m1 : -9223372036854775808 ≤ (k : Int) + 1 ∧ (k : Int) + 1 ≤ 9223372036854775807:=by omega
     have m2 : k + 1 ≤ l.length:=by omega
     have m3 : l.length - (k + 1) < l.length - k:=by omega
     refine ⟨m1,k + 1,⟨m2,fun i hi=>?_⟩,m3,Le.sub ⟨rfl,rfl,rfl,rfl,trivial⟩ trivial⟩
     rcases Nat.lt_or_ge i k with h4 | h4
     · exact hp i h4
     · have : i = k:=by omega
       subst this
       rw [List.getElem?_eq_getElem hk1]
       intro e
       injection e with e
       exact h2 e.symm
 · have h : decide ((k : Int) < (l.length : Int)) = false:=h
   have hk2 : k = l.length:=by simp at h; omega
   refine ⟨_,_,_,Le.refl _ _,rfl,(show (-1 : Int) = idxS l v from ?_),trivial,rfl⟩
   have : l.idxOf? v = none:=by
     rw [List.idxOf?_eq_none_iff]
     intro hm
     obtain ⟨i,hi,e⟩:=List.getElem_of_mem hm
     have:=hp i (by omega)
     rw [List.getElem?_eq_getElem hi] at this
     exact this (by rw [e])
   rw [idxS,this]
theorem containsS_fn (l : List (List UInt8)) (v : List UInt8) (hl : l.length ≤ 4294967296) : Fn Tryz.prog 93 [vL .str l,vS v] [] [] (vB (l.contains v)) []:=by
 refine Fn.of tblOK [] _ _ _ _ _ Tryz.func93 rfl rfl (by kernel_rfl) (by kernel_rfl) rfl (drawOK tblOK) rfl ?_
 refine ⟨_,_,_,_,indexS_fn l v hl,trivial,rfl,?_⟩
 refine ⟨_,_,_,Le.refl _ _,rfl,(show decide (0 ≤ idxS l v) = l.contains v from ?_),trivial,rfl⟩
 unfold idxS
 cases h : l.idxOf? v with
 | none =>
   rw [List.idxOf?_eq_none_iff] at h
   simp [h]
 | some i =>
   obtain ⟨hi,e,_⟩:=List.idxOf?_eq_some_iff.1 h
   have : v ∈ l:=by
     have:=List.getElem_mem hi
     rwa [show l[i] = v by simpa using e] at this
   simp [this]
theorem rebase_unk (bits room : Int) (L : List Dsk) (nm back : List UInt8) (h : (dk L nm).isSome = false ∨ (decide (back = []) || (dk L back).isSome) = false) : Fn Tryz.prog 53 [vP 1001,vS nm,vS back] (chB bits room L) [] (vI 140) (chB bits room L):=by
 have hkn:=known_fn bits room L back
 refine Fn.of tblOK [] _ _ _ _ _ Tryz.func53 rfl rfl (by kernel_rfl) (by kernel_rfl) rfl (drawOK tblOK) rfl ?_
 refine ⟨fun b' e3=>?_,fun e3=>?_⟩
 · obtain ⟨d,hd,_⟩:=cget_some e3
   have hb : (decide (back = []) || (dk L back).isSome) = false:=h.resolve_left (by rw [hd]; intro h; cases h)
   rw [hb] at hkn
   refine ⟨_,_,_,_,hkn,⟨rfl,rfl,rfl,rfl,trivial⟩,rfl,?_⟩
   refine ⟨fun _=>?_,fun e5=>absurd e5 (by decide)⟩
   exact ⟨_,_,_,Le.refl _ _,rfl,rfl,⟨rfl,rfl,rfl,rfl,trivial⟩,rfl⟩
 · exact ⟨_,_,_,Le.refl _ _,rfl,rfl,⟨rfl,rfl,rfl,rfl,trivial⟩,rfl⟩
theorem rebase_loop (bits room : Int) (L : List Dsk) (hN : ChN L) (nm back : List UInt8) (d : Dsk) (hd : dk L nm = some d) (hk : (decide (back = []) || (dk L back).isSome) = true) (k : Nat) (hD : Dn L back k) (hkl : k ≤ 1000000) (h : nm = back ∨ nm ∈ bl L k back) : Fn Tryz.prog 53 [vP 1001,vS nm,vS back] (chB bits room L) [] (vI 141) (chB bits room L):=by
 have hkn:=known_fn bits room L back
 rw [hk] at hkn
 have hx : (mget (ku:=.str) (vu:=.adr) (chE L) nm).getD (dflt .adr) = some d.ad:=by rw [cget,hd]; rfl
 have hbl:=below_fn bits room L hN back k hD hkl
 have hblen:=bl_len hD
 generalize bl L k back = bs at hbl hblen h
 have hcn:=containsS_fn bs nm (by omega)
 refine Fn.of tblOK [] _ _ _ _ _ Tryz.func53 rfl rfl (by kernel_rfl) (by kernel_rfl) rfl (drawOK tblOK) rfl ?_
 refine ⟨fun b' e3=>?_,fun hb=>absurd (show (mget (ku:=.str) (vu:=.adr) (chE L) nm).getD (dflt .adr) = none from hb) (by rw [hx]; intro h; cases h)⟩
 refine ⟨_,_,_,_,hkn,⟨rfl,rfl,rfl,rfl,trivial⟩,rfl,?_⟩
 refine ⟨fun e5=>absurd e5 (by decide),fun _=>?_⟩
 refine ⟨fun e6=>?_,fun e6=>?_⟩
 · exact ⟨_,_,_,Le.refl _ _,rfl,rfl,⟨rfl,rfl,rfl,rfl,trivial⟩,rfl⟩
 · have e6 : ¬ nm = back:=of_decide_eq_false e6
   have hm : bs.contains nm = true:=by simpa using h.resolve_left e6
   rw [hm] at hcn
   refine ⟨_,_,_,_,hbl,⟨rfl,rfl,rfl,rfl,trivial⟩,rfl,?_⟩
   refine ⟨_,_,_,_,hcn,trivial,rfl,?_⟩
   refine ⟨fun _=>?_,fun e5=>absurd e5 (by decide)⟩
   exact ⟨_,_,_,Le.refl _ _,rfl,rfl,⟨rfl,rfl,rfl,rfl,trivial⟩,rfl⟩
/-! ### another backing -/
def rbD (nm back : List UInt8) (d : Dsk) : Dsk:=if d.nm = nm then { d with back:=back } else d
def lset (L : List Dsk) (nm back : List UInt8) : List Dsk:=L.map (rbD nm back)
theorem rbD_nm (nm back : List UInt8) (d : Dsk) : (rbD nm back d).nm = d.nm:=by unfold rbD; split <;> rfl
theorem rbD_ad (nm back : List UInt8) (d : Dsk) : (rbD nm back d).ad = d.ad:=by unfold rbD; split <;> rfl
theorem rbD_am (nm back : List UInt8) (d : Dsk) : (rbD nm back d).am = d.am:=by unfold rbD; split <;> rfl
theorem rbD_im (nm back : List UInt8) (d : Dsk) : (rbD nm back d).im = d.im:=by unfold rbD; split <;> rfl
theorem rbD_pin (nm back : List UInt8) (d : Dsk) : (rbD nm back d).pin = d.pin:=by unfold rbD; split <;> rfl
theorem lset_E (L : List Dsk) (nm back : List UInt8) : chE (lset L nm back) = chE L:=by
 unfold chE lset
 rw [List.map_map]
 refine List.map_congr_left fun d _=>?_
 show mkE (rbD nm back d) = mkE d
 unfold mkE
 rw [rbD_nm,rbD_ad]
theorem lset_M (L : List Dsk) (nm back : List UInt8) : chM (lset L nm back) = chM L:=by
 unfold chM lset
 rw [List.map_map]
 refine List.map_congr_left fun d _=>?_
 show ((rbD nm back d).am,imX (rbD nm back d)) = _
 unfold imX
 rw [rbD_am,rbD_im,rbD_pin]
theorem ChN.lset {L : List Dsk} (h : ChN L) (nm back : List UInt8) : ChN (lset L nm back):=by
 have key : ∀ {α : Type} (f : Dsk → α),(∀ d,f (rbD nm back d) = f d) → (Go.Proofs.YteoamepgonpdlaaGreat.lset L nm back).map f = L.map f:=fun f hf=>by
   unfold Go.Proofs.YteoamepgonpdlaaGreat.lset
   rw [List.map_map]
   exact List.map_congr_left fun d _=>hf d
 exact ⟨by rw [key _ (rbD_nm nm back)]; exact h.nms,by rw [key _ (rbD_ad nm back)]; exact h.ads,by rw [key _ (rbD_am nm back)]; exact h.ams⟩
theorem lset_none {L : List Dsk} {nm : List UInt8} (back : List UInt8) (h : nm ∉ L.map (·.nm)) : lset L nm back = L:=by
 unfold lset
 refine (List.map_congr_left fun d hd=>?_).trans (List.map_id' L)
 unfold rbD
 rw [if_neg fun e=>h (by rw [← e]; exact List.mem_map_of_mem hd)]
theorem pset_lset {back : List UInt8} {nm : List UInt8} : ∀ {L : List Dsk},(L.map (·.nm)).Nodup → (L.map (·.ad)).Nodup → ∀ {d : Dsk},dk L nm = some d → pset (chD L) d.ad (dskO d.am back) = chD (lset L nm back)
 | [],_,_,d,h=>by cases h
 | e :: L,hn,ha,d,h=>by
   rw [List.map_cons] at hn ha
   obtain ⟨n1,n2⟩:=List.nodup_cons.1 hn
   obtain ⟨a1,a2⟩:=List.nodup_cons.1 ha
   rw [dk_cons] at h
   show pset ((e.ad,dskO e.am e.back) :: chD L) d.ad (dskO d.am back) = chD (rbD nm back e :: lset L nm back)
   unfold pset
   by_cases c : e.nm = nm
   · rw [if_pos c] at h
     injection h with h
     subst h
     rw [if_pos rfl,lset_none back (by rw [← c]; exact n1)]
     unfold rbD
     rw [if_pos c]
     rfl
   · rw [if_neg c] at h
     have hne : ¬ e.ad = d.ad:=fun x=>a1 (by rw [x]; exact List.mem_map_of_mem (f:=fun d : Dsk=>d.ad) (dk_get h).1)
     rw [if_neg hne,pset_lset n2 a2 h]
     unfold rbD
     rw [if_neg c]
     rfl
theorem dk_lset (nm back n : List UInt8) : ∀ L : List Dsk,dk (lset L nm back) n = (dk L n).map (rbD nm back)
 | []=>rfl
 | d :: L=>by
   show dk (rbD nm back d :: lset L nm back) n = _
   rw [dk_cons,dk_cons,rbD_nm,dk_lset nm back n L]
   split <;> rfl
theorem lset_back {L : List Dsk} (hn : (L.map (·.nm)).Nodup) {nm back : List UInt8} {d : Dsk} (h : dk L nm = some d) : lset (lset L nm back) nm d.back = L:=by
 induction L with
 | nil=>cases h
 | cons e L ih =>
   rw [List.map_cons] at hn
   obtain ⟨n1,n2⟩:=List.nodup_cons.1 hn
   rw [dk_cons] at h
   show rbD nm d.back (rbD nm back e) :: lset (lset L nm back) nm d.back = e :: L
   by_cases c : e.nm = nm
   · rw [if_pos c] at h
     injection h with h
     subst h
     have hL : nm ∉ L.map (·.nm):=by rw [← c]; exact n1
     rw [lset_none back hL,lset_none _ hL]
     congr 1
     unfold rbD
     rw [if_pos c,if_pos c]
   · rw [if_neg c] at h
     rw [ih n2 h]
     congr 1
     unfold rbD
     rw [if_neg c,if_neg c]
@[reducible] def rbK (nm back old : List UInt8) (ad : Nat) : KL:=[(0,vP 1001),(1,vS nm),(2,vS back),(7,vAd ad),(8,vS old)]
@[reducible] def rbL (old : List UInt8) (ad : Nat) (l : List (List UInt8)) (j : Nat) : KL:=[(0,vP 1001),(7,vAd ad),(8,vS old),(46,vL .str l),(47,vI (l.length : Nat)),(48,vI (j : Nat))]
theorem strCell {I : Nat → Prop} {w : World} {s : List UInt8} {z : Value} (h : Den I w (.str s) z) : z.cells = List.toArray [z] ∧ z.oneCell' = true:=by
 have h : z = .string ⟨s.toArray⟩:=h
 subst h
 exact ⟨rfl,rfl⟩
theorem rebase_fn (bits room : Int) (L : List Dsk) (hN : ChN L) (hl : ∀ d,d ∈ L → d.nm.length ≤ 100000) (h16 : L.length ≤ 100) (nm back : List UInt8) (d : Dsk) (hd : dk L nm = some d) (hk : (decide (back = []) || (dk L back).isSome) = true) (k : Nat) (hD : Dn L back k) (hkl : k ≤ 1000000) (h : ¬ (nm = back ∨ nm ∈ bl L k back))
   (kf : List UInt8 → Nat) (hkf : ∀ n ∈ nmsS L,Dn (lset L nm back) n (kf n) ∧ kf n ≤ 1000000) (r : Int) (LR : List Dsk) (hok : (∀ n ∈ nmsS L,kf n ≤ 8) → r = 0 ∧ LR = lset L nm back) (hno : (∃ n ∈ nmsS L,8 < kf n) → r = 142 ∧ LR = L) :
   Fn Tryz.prog 53 [vP 1001,vS nm,vS back] (chB bits room L) [] (vI r) (chB bits room LR):=by
 obtain ⟨ia,ia1,ia2⟩:=inf_of infStr
 have hkn:=known_fn bits room L back
 rw [hk] at hkn
 have hx : (mget (ku:=.str) (vu:=.adr) (chE L) nm).getD (dflt .adr) = some d.ad:=by rw [cget,hd]; rfl
 have hbl:=below_fn bits room L hN back k hD hkl
 have hblen:=bl_len hD
 generalize bl L k back = bs at hbl hblen h
 have hcn:=containsS_fn bs nm (by omega)
 have hc0 : bs.contains nm = false:=by
   have:=fun e=>h (.inr e)
   simpa using this
 rw [hc0] at hcn
 have hLd:=hN.D (dk_get hd).1
 have hN2:=hN.lset nm back
 have hd2 : dk (lset L nm back) nm = some (rbD nm back d):=by rw [dk_lset,hd]; rfl
 have hLd2:=hN2.D (dk_get hd2).1
 rw [rbD_ad,rbD_am,show (rbD nm back d).back = back by unfold rbD; rw [if_pos (dk_get hd).2]] at hLd2
 have eE:=lset_E L nm back
 have eM:=lset_M L nm back
 have eD : pset (chD L) d.ad (dskO d.am back) = chD (lset L nm back):=pset_lset hN.nms hN.ads hd
 have eB : pset (chD (lset L nm back)) d.ad (dskO d.am d.back) = chD L:=by
   have:=pset_lset (back:=d.back) hN2.nms hN2.ads hd2
   rw [rbD_ad,rbD_am,lset_back hN.nms hd] at this
   exact this
 have hnf:=names_fn bits room (lset L nm back) hN2 (fun x hx=>by
   obtain ⟨y,hy,rfl⟩:=List.mem_map.1 hx
   rw [rbD_nm]
   exact hl y hy) (by unfold lset; rw [List.length_map]; exact h16)
 have enm : nmsS (lset L nm back) = nmsS L:=by unfold nmsS; rw [eE]
 rw [enm] at hnf
 have hlen:=nmsS_len L
 generalize nmsS L = l at *
 refine Fn.of tblOK [6,8,12] _ _ _ _ _ Tryz.func53 rfl rfl (by kernel_rfl) (by kernel_rfl) rfl (drawOK tblOK) rfl ?_
 refine ⟨fun b' e3=>?_,fun hb=>absurd (show (mget (ku:=.str) (vu:=.adr) (chE L) nm).getD (dflt .adr) = none from hb) (by rw [hx]; intro h; cases h)⟩
 refine ⟨_,_,_,_,hkn,⟨rfl,rfl,rfl,rfl,trivial⟩,rfl,?_⟩
 refine ⟨fun e5=>absurd e5 (by decide),fun _=>?_⟩
 refine ⟨fun e6=>?_,fun e6=>?_⟩
 · exact absurd (.inl (of_decide_eq_true e6)) h
 refine ⟨_,_,_,_,hbl,⟨rfl,rfl,rfl,rfl,trivial⟩,rfl,?_⟩
 refine ⟨_,_,_,_,hcn,trivial,rfl,?_⟩
 refine ⟨fun e5=>absurd e5 (by decide),fun _=>?_⟩
 show TrQ _ _ _ _ _ _ _
 refine TrQ.go tblOK (drawOK tblOK) [8,12] (by kernel_rfl) (Le.refl _ _) ?_
 refine ⟨_,_,fun N=>opOK_nilAdr (b:=d.ad) rfl (by exact adrV_eq hx) N,rfl,?_⟩
 refine ⟨_,_,fun N=>opOK_fieldAdr rfl Tryz.underlying130 rfl rfl ia1 (by rw [ia2]; decide) rfl N,rfl,?_⟩
 refine ⟨_,_,fun N=>opOK_loadRaw (q:=1003) rfl Tryz.underlying9 rfl rfl rfl hLd rfl N,rfl,?_⟩
 refine ⟨_,_,fun N=>opOK_nilAdr (b:=d.ad) rfl (by exact adrV_eq hx) N,rfl,?_⟩
 refine ⟨_,_,fun N=>opOK_fieldAdr rfl Tryz.underlying130 rfl rfl ia1 (by rw [ia2]; decide) rfl N,rfl,?_⟩
 refine ⟨_,_,fun N=>opOK_storeRaw (q:=1003) (b:=d.ad) (j:=1) (y:=.str back) (l:=dskL d.am d.back) (h':=fun _=>rfl) rfl ia1 ia2 rfl rfl rfl hLd (Nat.lt_succ_self 1) strCell N,rfl,?_⟩
 show TrQ _ _ _ _ _ _ _
 refine TrQ.go tblOK (drawOK tblOK) [12] (by kernel_rfl) (Le.sub (K':=rbK nm back d.back d.ad) (B':=chB bits room (lset L nm back)) ⟨rfl,rfl,rfl,hx,rfl,trivial⟩ ⟨rfl,congrArg (fun e=>some (Ch.map .str .adr e)) eE.symm,congrArg (fun e=>some (Ch.obj (.pool e))) eD,congrArg (fun e=>some (Ch.obj (.pool e))) eM.symm,trivial⟩) ?_
 refine ⟨_,_,_,_,hnf,⟨rfl,rfl,rfl,rfl,trivial⟩,rfl,?_⟩
 show TrQ _ _ _ _ _ _ _
 refine TrQ.loop tblOK (drawOK tblOK) [12] (by kernel_rfl) (X:=Nat) (rbL d.back d.ad l) (fun _=>chB bits room (lset L nm back)) (fun j=>j ≤ l.length ∧ ∀ n ∈ l.take j,kf n ≤ 8) (fun j=>l.length - j) 0 ⟨Nat.zero_le _,fun n hn=>by rw [List.take_zero] at hn; cases hn⟩ ?_ ?_
 · exact Le.sub ⟨rfl,rfl,rfl,rfl,rfl,rfl,trivial⟩ ⟨rfl,rfl,rfl,rfl,trivial⟩
 intro j ⟨hj,hjp⟩
 refine ⟨fun h=>?_,fun h=>?_⟩
 · have h : decide ((j : Int) < (l.length : Nat)) = true:=h
   have hj2 : j < l.length:=by simpa using h
   have m3 : (0 : Int) ≤ (j : Int):=by omega
   have m6 : (-9223372036854775808 : Int) ≤ (j : Int) + 1 ∧ (j : Int) + 1 ≤ 9223372036854775807:=by omega
   obtain ⟨hDn,hDl⟩:=hkf _ (List.getElem_mem hj2)
   have hmem:=List.getElem_mem hj2
   have htk:=List.take_succ_eq_append_getElem hj2
   have hb2:=below_fn bits room (lset L nm back) hN2 _ _ hDn hDl
   have hb2l:=bl_len hDn
   refine ⟨m3,l[j],lgAt (n:=j) hj2,?_⟩
   generalize l[j] = n at *
   generalize bl (lset L nm back) (kf n) n = ns at hb2 hb2l
   refine ⟨_,_,_,_,hb2,⟨rfl,rfl,rfl,rfl,trivial⟩,rfl,?_⟩
   refine ⟨fun e7=>?_,fun e7=>?_⟩
   · have e7 : (8 : Int) < (ns.length : Int):=of_decide_eq_true e7
     obtain ⟨rfl,rfl⟩:=hno ⟨n,hmem,by omega⟩
     show TrQ _ _ _ _ _ _ _
     refine TrQ.go tblOK (drawOK tblOK) [] (by kernel_rfl) (Le.sub (K':=[(7,vAd d.ad),(8,vS d.back)]) (B':=chB bits room (lset LR nm back)) ⟨rfl,rfl,trivial⟩ ⟨rfl,rfl,rfl,rfl,trivial⟩) ?_
     refine ⟨_,_,fun N=>opOK_nilAdr (b:=d.ad) rfl rfl N,rfl,?_⟩
     refine ⟨_,_,fun N=>opOK_fieldAdr rfl Tryz.underlying130 rfl rfl ia1 (by rw [ia2]; decide) rfl N,rfl,?_⟩
     refine ⟨_,_,fun N=>opOK_storeRaw (q:=1003) (b:=d.ad) (j:=1) (y:=.str d.back) (l:=dskL d.am back) (h':=fun _=>rfl) rfl ia1 ia2 rfl rfl rfl hLd2 (Nat.lt_succ_self 1) strCell N,rfl,?_⟩
     exact ⟨_,_,_,Le.refl _ _,rfl,rfl,⟨rfl,congrArg (fun e=>some (Ch.map .str .adr e)) eE,congrArg (fun e=>some (Ch.obj (.pool e))) eB,congrArg (fun e=>some (Ch.obj (.pool e))) eM,trivial⟩,rfl⟩
   · have e7 : ¬ (8 : Int) < (ns.length : Int):=of_decide_eq_false e7
     refine ⟨m6,j + 1,⟨hj2,fun n' hn'=>?_⟩,by omega,Le.sub ⟨rfl,rfl,rfl,rfl,rfl,rfl,trivial⟩ ⟨rfl,rfl,rfl,rfl,trivial⟩⟩
     rw [htk] at hn'
     rcases List.mem_append.1 hn' with hn' | hn'
     · exact hjp n' hn'
     · rw [List.mem_singleton] at hn'
       subst hn'
       omega
 · have h : decide ((j : Int) < (l.length : Nat)) = false:=h
   have hj2 : j = l.length:=by simp at h; omega
   subst hj2
   rw [List.take_length] at hjp
   obtain ⟨rfl,rfl⟩:=hok hjp
   exact ⟨_,_,_,Le.refl _ _,rfl,rfl,⟨rfl,rfl,rfl,rfl,trivial⟩,rfl⟩
end Go.Proofs.YteoamepgonpdlaaGreat
/-!
  Chains: what is below, as a closure; does.
-/
namespace Go.Proofs.YteoamepgonpdlaaGreat
set_option linter.unusedVariables false
set_option linter.unusedSimpArgs false
set_option maxRecDepth 10000
open Go.RowKit Go.Proofs
@[reducible] def bxB (nm : List UInt8) : BL:=[(2001,.cells [.ptr 1001 0]),(2002,.cells [.d (.str nm)])]
@[reducible] def dsB (bits room : Int) (L : List Dsk) (nm : List UInt8) : BL:=chB bits room L ++ bxB nm
theorem does1_fn (bits room : Nat) (L : List Dsk) (hC : ChOK bits room L) (nm : List UInt8) (d0 : Dsk) (h0 : dk L nm = some d0) (kk : Nat) (hkk : Dn L nm kk) (hk8 : kk ≤ 100) (k : Nat) (hk : k < d0.im.t.length) :
   Fn Tryz.prog 114 [vI (k : Int),vP 2001,vP 2002] (dsB bits room L nm) [] (vL .u8 (cseen bits L nm kk k)) (dsB bits room L nm):=by
 have hcl:=cluster_in bits room L hC nm d0 h0 kk hkk hk8 k hk
 generalize cseen bits L nm kk k = y at hcl
 refine Fn.of tblOK [] _ _ _ _ _ Tryz.func114 rfl rfl (by kernel_rfl) (by kernel_rfl) rfl (drawOK tblOK) rfl ?_
 refine ⟨_,_,_,_,hcl,⟨rfl,rfl,rfl,rfl,trivial⟩,rfl,?_⟩
 exact ⟨_,_,_,Le.refl _ _,rfl,rfl,⟨rfl,rfl,rfl,rfl,rfl,rfl,trivial⟩,rfl⟩
/-! ### does: no such disk -/
theorem does_no (bits room : Int) (L : List Dsk) (nm : List UInt8) (h0 : dk L nm = none) (g : Nat) (x y : D) :
   Fn Tryz.prog 89 [vP 1001,vS nm,.c (.one (.clo g [.p 3001 0,.p 3002 0]))] (chB bits room L ++ [(3001,.cells [.d x]),(3002,.cells [.d y])]) [] (vI 140) (chB bits room L ++ [(3001,.cells [.d x]),(3002,.cells [.d y])]):=by
 have hx : (mget (ku:=.str) (vu:=.adr) (chE L) nm).getD (dflt .adr) = none:=by rw [cget,h0]; rfl
 refine Fn.of tblOK [2] _ _ _ _ _ Tryz.func89 rfl rfl (by kernel_rfl) (by kernel_rfl) rfl (drawOK tblOK) rfl ?_
 refine ⟨rfl,?_⟩
 refine ⟨rfl,?_⟩
 refine ⟨rfl,?_⟩
 show TrQ _ _ _ _ _ _ _
 refine TrQ.go tblOK (drawOK tblOK) [] (by kernel_rfl) (Le.refl _ _) ?_
 refine ⟨fun b' hb=>absurd (show (mget (ku:=.str) (vu:=.adr) (chE L) nm).getD (dflt .adr) = some b' from hb) (by rw [hx]; intro h; cases h),fun _=>?_⟩
 exact ⟨_,_,_,Le.refl _ _,rfl,rfl,⟨rfl,rfl,rfl,rfl,rfl,rfl,trivial⟩,rfl⟩
/-! Chains: another image of a disk; what is below an image while that is written to. -/
theorem Sat.sub {N : Nat} {ids : List Nat} {C : Ctx} {K K' : KL} {B B' : BL} {a : Act} {w : World} (h : Sat N ids C K B a w) (hK : subK K K') (hB : subB B B') : Sat N ids C K' B' a w:=Le.sub hK hB N C a w h
/-! ### objects of an image,by their block's number alone -/
theorem blkO_tab (t : List Slt) : BlkOnly (.obj (tabO t)):=by
 rintro ρ0 ρ1 I F w p p' _ hp ⟨es,h,hg⟩
 exact ⟨es,h,BlkOnly.grp (c:=1001) (blkB_get (Bl:=tabB (t.length : Nat) es) ⟨BlkOnly.cells rfl,BlkOnly.map,trivial⟩) ρ0 ρ1 I F w p p' (fun _ h=>by cases h) hp hg⟩
theorem blkO_cnt (l : List Int) : BlkOnly (.obj (cntO l)):=by
 rintro ρ0 ρ1 I F w p p' _ hp ⟨ρ,G,h1,h2,h3,h4⟩
 refine ⟨upd ρ 1001 p',G,upd_same ..,fun d ch hd=>?_,h3,h4⟩
 have hH:=h2 d ch hd
 rw [lookB_cons] at hd
 split at hd
 · rename_i e
   injection hd with hd
   subst hd e
   obtain ⟨g1,vs,T,g2,g3⟩:=hH
   rw [upd_same]
   rw [h1] at g1 g2
   exact ⟨fun b=>by rw [hp]; exact g1 b,vs,T,by rw [hp]; exact g2,DenL.mono (Ext.refl _ _) _ vs (fun c hc=>upd_other _ _ (fun e=>by subst e; cases hc)) g3⟩
 · rename_i e
   rw [upd_other _ _ (Ne.symm e)]
   rw [lookB_cons] at hd
   split at hd
   · injection hd with hd
     subst hd
     exact Holds.stable (Ext.refl _ _) (fun _ _=>rfl) (Nat.le_refl _) _ (fun c hc=>by cases hc) hH
   · cases hd
theorem blkO_data (f : FMap) : BlkOnly (.obj (dataO f)):=by
 intro ρ0 ρ1 I F w p p' _ hp h
 have h : dataR (fun _=>none) f I F w p:=h
 show dataR (fun _=>none) f I F w p'
 unfold dataR at *
 rw [hp]
 exact h
theorem blkB_im (s : ImS) : blkB (imB s):=⟨BlkOnly.cells rfl,blkO_tab _,blkO_cnt _,blkO_data _,trivial⟩
/-! ### another image of a disk -/
def imD (nm : List UInt8) (im : ImS) (pin : Option (Nat → Nat)) (d : Dsk) : Dsk:=if d.nm = nm then { d with im:=im,pin:=pin } else d
def lim (L : List Dsk) (nm : List UInt8) (im : ImS) (pin : Option (Nat → Nat)) : List Dsk:=L.map (imD nm im pin)
section
variable (nm : List UInt8) (im : ImS) (pin : Option (Nat → Nat)) (d : Dsk)
theorem imD_nm : (imD nm im pin d).nm = d.nm:=by unfold imD; split <;> rfl
theorem imD_ad : (imD nm im pin d).ad = d.ad:=by unfold imD; split <;> rfl
theorem imD_am : (imD nm im pin d).am = d.am:=by unfold imD; split <;> rfl
theorem imD_back : (imD nm im pin d).back = d.back:=by unfold imD; split <;> rfl
theorem lim_E (L : List Dsk) : chE (lim L nm im pin) = chE L:=by
 unfold chE lim
 rw [List.map_map]
 refine List.map_congr_left fun d _=>?_
 show mkE (imD nm im pin d) = mkE d
 unfold mkE
 rw [imD_nm,imD_ad]
theorem lim_D (L : List Dsk) : chD (lim L nm im pin) = chD L:=by
 unfold chD lim
 rw [List.map_map]
 refine List.map_congr_left fun d _=>?_
 show ((imD nm im pin d).ad,dskO (imD nm im pin d).am (imD nm im pin d).back) = _
 rw [imD_ad,imD_am,imD_back]
theorem dk_lim (n : List UInt8) : ∀ L : List Dsk,dk (lim L nm im pin) n = (dk L n).map (imD nm im pin)
 | []=>rfl
 | d :: L=>by
   show dk (imD nm im pin d :: lim L nm im pin) n = _
   rw [dk_cons,dk_cons,imD_nm,dk_lim n L]
   split <;> rfl
end
theorem dk_lim_self {L : List Dsk} {nm : List UInt8} {d : Dsk} (h : dk L nm = some d) (im : ImS) (pin : Option (Nat → Nat)) : dk (lim L nm im pin) nm = some { d with im:=im,pin:=pin }:=by
 rw [dk_lim,h]
 show some (imD nm im pin d) = _
 unfold imD
 rw [if_pos (dk_get h).2]
theorem dk_lim_ne {L : List Dsk} {nm n : List UInt8} (hne : n ≠ nm) (im : ImS) (pin : Option (Nat → Nat)) : dk (lim L nm im pin) n = dk L n:=by
 rw [dk_lim]
 cases h : dk L n with
 | none=>rfl
 | some d =>
   show some (imD nm im pin d) = _
   unfold imD
   rw [if_neg (fun e=>hne ((dk_get h).2.symm.trans e))]
theorem lim_none {L : List Dsk} {nm : List UInt8} (im : ImS) (pin : Option (Nat → Nat)) (h : nm ∉ L.map (·.nm)) : lim L nm im pin = L:=by
 unfold lim
 refine (List.map_congr_left fun d hd=>?_).trans (List.map_id' L)
 unfold imD
 rw [if_neg fun e=>h (by rw [← e]; exact List.mem_map_of_mem hd)]
theorem pset_lim {nm : List UInt8} {im : ImS} {pin : Option (Nat → Nat)} : ∀ {L : List Dsk},(L.map (·.nm)).Nodup → (L.map (·.am)).Nodup → ∀ {d : Dsk},dk L nm = some d → pset (chM L) d.am (imX { d with im:=im,pin:=pin }) = chM (lim L nm im pin)
 | [],_,_,d,h=>by cases h
 | e :: L,hn,ha,d,h=>by
   rw [List.map_cons] at hn ha
   obtain ⟨n1,n2⟩:=List.nodup_cons.1 hn
   obtain ⟨a1,a2⟩:=List.nodup_cons.1 ha
   rw [dk_cons] at h
   show pset ((e.am,imX e) :: chM L) d.am _ = chM (imD nm im pin e :: lim L nm im pin)
   unfold pset
   by_cases c : e.nm = nm
   · rw [if_pos c] at h
     injection h with h
     subst h
     rw [if_pos rfl,lim_none im pin (by rw [← c]; exact n1)]
     unfold imD
     rw [if_pos c]
     rfl
   · rw [if_neg c] at h
     have hne : ¬ e.am = d.am:=fun x=>a1 (by rw [x]; exact List.mem_map_of_mem (f:=fun d : Dsk=>d.am) (dk_get h).1)
     rw [if_neg hne,pset_lim n2 a2 h]
     unfold imD
     rw [if_neg c]
     rfl
theorem pdel_pset {b : Nat} {o : Ob} : ∀ L : List (Nat × Ob),pdel (pset L b o) b = pdel L b
 | []=>rfl
 | (a,q) :: L=>by
   unfold pset
   by_cases e : a = b
   · rw [if_pos e]
     show (if a = b then L else _) = if a = b then L else _
     rw [if_pos e,if_pos e]
   · rw [if_neg e]
     show (if a = b then _ else (a,q) :: pdel (pset L b o) b) = if a = b then L else (a,q) :: pdel L b
     rw [if_neg e,if_neg e,pdel_pset L]
theorem dn_lim {L : List Dsk} (nm : List UInt8) (im : ImS) (pin : Option (Nat → Nat)) {n : List UInt8} {k : Nat} (h : Dn L n k) : Dn (lim L nm im pin) n k:=by
 induction h with
 | gone h=>exact .gone (by rw [dk_lim,h]; rfl)
 | base h1 h2=>exact .base (d:=imD nm im pin _) (by rw [dk_lim,h1]; rfl) (by rw [imD_back]; exact h2)
 | step h1 h2 h3 ih=>exact .step (d:=imD nm im pin _) (by rw [dk_lim,h1]; rfl) (by rw [imD_back]; exact h2) (by rw [imD_back]; exact ih)
theorem bl_lim (L : List Dsk) (nm : List UInt8) (im : ImS) (pin : Option (Nat → Nat)) : ∀ (k : Nat) (n : List UInt8),bl (lim L nm im pin) k n = bl L k n
 | 0,_=>rfl
 | k + 1,n=>by
   show (match dk (lim L nm im pin) n with | none=>[] | some d=>d.back :: bl (lim L nm im pin) k d.back) = match dk L n with | none=>[] | some d=>d.back :: bl L k d.back
   rw [dk_lim]
   cases h : dk L n with
   | none=>rfl
   | some d =>
     show (imD nm im pin d).back :: bl (lim L nm im pin) k (imD nm im pin d).back = d.back :: bl L k d.back
     rw [imD_back,bl_lim L nm im pin k]
theorem ChN.lim {L : List Dsk} (h : ChN L) (nm : List UInt8) (im : ImS) (pin : Option (Nat → Nat)) : ChN (lim L nm im pin):=by
 have key : ∀ {α : Type} (f : Dsk → α),(∀ d,f (imD nm im pin d) = f d) → (Go.Proofs.YteoamepgonpdlaaGreat.lim L nm im pin).map f = L.map f:=fun f hf=>by
   unfold Go.Proofs.YteoamepgonpdlaaGreat.lim
   rw [List.map_map]
   exact List.map_congr_left fun d _=>hf d
 exact ⟨by rw [key _ (imD_nm nm im pin)]; exact h.nms,by rw [key _ (imD_ad nm im pin)]; exact h.ads,by rw [key _ (imD_am nm im pin)]; exact h.ams⟩
theorem ChOK.lim {bits room : Nat} {L : List Dsk} (h : ChOK bits room L) {nm : List UInt8} {d0 : Dsk} (h0 : dk L nm = some d0) {im : ImS} (hs : Like d0.im im) (pin : Option (Nat → Nat)) : ChOK bits room (lim L nm im pin):=by
 obtain ⟨o1,o2,o3⟩:=h.ims d0 (dk_get h0).1
 have key : ∀ d,d ∈ Go.Proofs.YteoamepgonpdlaaGreat.lim L nm im pin → ∃ e,e ∈ L ∧ imD nm im pin e = d:=fun d hd=>by
   obtain ⟨e,he,rfl⟩:=List.mem_map.1 hd
   exact ⟨e,he,rfl⟩
 refine ⟨h.toChN.lim nm im pin,h.b3,h.r512,by unfold Go.Proofs.YteoamepgonpdlaaGreat.lim; rw [List.length_map]; exact h.len,fun d hd=>?_,fun d hd hb=>?_,fun d hd=>?_,fun d hd=>?_⟩
 · obtain ⟨e,he,rfl⟩:=key d hd
   unfold imD
   split
   · exact ⟨hs.ok,hs.bits.trans o2,hs.ll.trans o3⟩
   · exact h.ims e he
 · obtain ⟨e,he,rfl⟩:=key d hd
   rw [imD_back] at hb ⊢
   obtain ⟨e',h'⟩:=h.kn e he hb
   exact ⟨imD nm im pin e',by rw [dk_lim,h']; rfl⟩
 · obtain ⟨e,he,rfl⟩:=key d hd
   rw [imD_nm]
   exact h.ne e he
 · obtain ⟨e,he,rfl⟩:=key d hd
   rw [imD_nm]
   obtain ⟨k,hk,hd⟩:=h.dn e he
   exact ⟨k,hk,dn_lim nm im pin hd⟩
theorem dn_det {L : List Dsk} {n : List UInt8} {k k' : Nat} (h : Dn L n k) (h' : Dn L n k') : k = k':=by
 induction h generalizing k' with
 | gone h =>
   cases h' with
   | gone _=>rfl
   | base _ _=>rfl
   | step h1 _ _=>rw [h] at h1; cases h1
 | base h1 h2 =>
   cases h' with
   | gone _=>rfl
   | base _ _=>rfl
   | step g1 g2 _=>rw [h1] at g1; injection g1 with g1; rw [← g1] at g2; exact absurd h2 g2
 | step h1 h2 h3 ih =>
   cases h' with
   | gone h=>rw [h1] at h; cases h
   | base g1 g2=>rw [h1] at g1; injection g1 with g1; rw [← g1] at g2; exact absurd g2 h2
   | step g1 g2 g3=>rw [h1] at g1; injection g1 with g1; rw [← g1] at g3; rw [ih g3]
theorem bl_mem {L : List Dsk} {n : List UInt8} {k : Nat} (h : Dn L n k) : ∀ x,x ∈ bl L k n → ∃ j,j < k ∧ Dn L x j:=by
 induction h with
 | gone _=>intro x hx; cases hx
 | base _ _=>intro x hx; cases hx
 | @step n d k h1 h2 h3 ih =>
   intro x hx
   unfold bl at hx
   rw [h1] at hx
   rcases List.mem_cons.1 hx with rfl | hx
   · exact ⟨k,Nat.lt_succ_self k,h3⟩
   · obtain ⟨j,hj,hd⟩:=ih x hx
     exact ⟨j,by omega,hd⟩
theorem bl_self {L : List Dsk} {n : List UInt8} {k : Nat} (h : Dn L n k) : n ∉ bl L k n:=fun hx=>by
 obtain ⟨j,hj,hd⟩:=bl_mem h n hx
 have:=dn_det h hd
 omega
theorem seenL_lim {bits : Nat} {L : List Dsk} {nm : List UInt8} {im : ImS} {pin : Option (Nat → Nat)} {c : Nat} : ∀ (ns : List (List UInt8)) (i : Nat),nm ∉ ns → seenL bits (lim L nm im pin) c ns i = seenL bits L c ns i
 | [],_,_=>rfl
 | n :: ns,i,h=>by
   have hne : n ≠ nm:=fun e=>h (by rw [e]; exact List.mem_cons_self ..)
   have ih:=seenL_lim (bits:=bits) (L:=L) (nm:=nm) (im:=im) (pin:=pin) (c:=c) ns (i + 1) fun hm=>h (List.mem_cons_of_mem _ hm)
   unfold seenL
   rw [dk_lim_ne hne,ih]
/-- What is below a disk's cluster. -/
def belY (bits : Nat) (L : List Dsk) (nm : List UInt8) (kk c : Nat) : List UInt8:=(seenL bits L c (bl L kk nm) 1).1
theorem cseen_lim {bits : Nat} {L : List Dsk} {nm : List UInt8} {d0 : Dsk} (h0 : dk L nm = some d0) {kk : Nat} (hkk : Dn L nm kk) (im : ImS) (pin : Option (Nat → Nat)) (c : Nat) :
   cseen bits (lim L nm im pin) nm kk c = if c < im.t.length ∧ (im.t.getD c s0).1 ≠ 0 then clus im c none else belY bits L nm kk c:=by
 unfold cseen belY
 rw [bl_lim]
 conv=>lhs; unfold seenL
 rw [dk_lim_self h0]
 simp only
 split
 · rfl
 · rw [seenL_lim _ _ (bl_self hkk)]
/-! ### what is below an image,while that is written to -/
@[reducible] def belG (bits room : Int) (L : List Dsk) (nm : List UInt8) (am : Nat) : BL:=[(8001,.cells [.d (.int .i64 bits),.d (.int .i64 room),.mp 8002]),(8002,.map .str .adr (chE L)),(8003,.obj (.pool (chD L))),(8004,.obj (.pool (pdel (chM L) am))),(8005,.cells [.ptr 8001 0]),(8006,.cells [.d (.str nm)])]
def belR (bits room : Int) (L : List Dsk) (nm : List UInt8) (am : Nat) (bs : Nat → Nat) : Pl → Ob:=.tie am (.grpX (belG bits room L nm am) bs)
theorem blkB_bel (bits room : Int) (L : List Dsk) (nm : List UInt8) (am : Nat) : blkB (belG bits room L nm am):=⟨BlkOnly.cells rfl,BlkOnly.map,BlkOnly.pool,BlkOnly.pool,BlkOnly.cells rfl,BlkOnly.cells rfl,trivial⟩
@[reducible] def dsB8 (bits room : Int) (L : List Dsk) (nm : List UInt8) : BL:=[(8001,.cells [.d (.int .i64 bits),.d (.int .i64 room),.mp 8002]),(8002,.map .str .adr (chE L)),(8003,.obj (.pool (chD L))),(8004,.obj (.pool (chM L))),(8005,.cells [.ptr 8001 0]),(8006,.cells [.d (.str nm)])]
@[reducible] def imPs (am p2 p3 p4 : Nat) : Nat → Nat:=fun c=>cond (Nat.beq c 1001) am (cond (Nat.beq c 1002) p2 (cond (Nat.beq c 1003) p3 p4))
@[reducible] def imPt (p2 p3 p4 : Nat) : Nat → Nat:=fun c=>cond (Nat.beq c 1002) p2 (cond (Nat.beq c 1003) p3 p4)
@[reducible] def mkI (am p2 p3 p4 : Nat) : BL:=[(9001,.dep 1001 (isAt am)),(9002,.dep 1002 (isAt p2)),(9003,.dep 1003 (isAt p3)),(9004,.dep 1004 (isAt p4))]
@[reducible] def mkG (bs : Nat → Nat) : BL:=[(7001,.dep 8001 (isAt (bs 8001))),(7002,.dep 8002 (isAt (bs 8002))),(7003,.dep 8003 (isAt (bs 8003))),(7004,.dep 8004 (isAt (bs 8004))),(7005,.dep 8005 (isAt (bs 8005))),(7006,.dep 8006 (isAt (bs 8006)))]
theorem does1_8 (bits room : Nat) (L : List Dsk) (hC : ChOK bits room L) (nm : List UInt8) (d0 : Dsk) (h0 : dk L nm = some d0) (kk : Nat) (hkk : Dn L nm kk) (hk8 : kk ≤ 100) (k : Nat) (hk : k < d0.im.t.length) :
   Fn Tryz.prog 114 [vI (k : Int),vP 8005,vP 8006] (dsB8 bits room L nm) [] (vL .u8 (cseen bits L nm kk k)) (dsB8 bits room L nm) :=
 Fn.ren [(1001,8001),(1002,8002),(1003,8003),(1004,8004),(2001,8005),(2002,8006)] (does1_fn bits room L hC nm d0 h0 kk hkk hk8 k hk)
theorem belowI (bits room : Nat) (L : List Dsk) (hC : ChOK bits room L) (nm : List UInt8) (d0 : Dsk) (h0 : dk L nm = some d0) (kk : Nat) (hkk : Dn L nm kk) (hk8 : kk ≤ 100) (s : ImS) (hs : Like d0.im s) (bs : Nat → Nat) (c : Nat) (hc : c < s.t.length) (hz : (s.t[c]).1 = 0) :
   BelowI s (belR bits room L nm d0.am bs) (bs 8005) (bs 8006) c (belY bits L nm kk c):=by
 have hlen : (belY bits L nm kk c).length ≤ 1000000:=by
   have:=seenL_len hC c (bl L kk nm) 1
   unfold belY
   omega
 refine ⟨hlen,?_⟩
 have hLm:=hC.toChN.M (dk_get h0).1
 have ey : ∀ pin,cseen bits (lim L nm s pin) nm kk c = belY bits L nm kk c:=fun pin=>by
   rw [cseen_lim h0 hkk,if_neg fun h=>h.2 (by rw [List.getD_eq_getElem?_getD,List.getElem?_eq_getElem hc]; exact hz)]
 have hfn : ∀ pin,Fn Tryz.prog 114 [vI (c : Int),vP 8005,vP 8006] (dsB8 bits room (lim L nm s pin) nm) [] (vL .u8 (belY bits L nm kk c)) (dsB8 bits room (lim L nm s pin) nm):=fun pin=>by
   have:=does1_8 bits room (lim L nm s pin) (hC.lim h0 hs pin) nm _ (dk_lim_self h0 s pin) kk (dn_lim nm s pin hkk) hk8 c hc
   rw [ey pin] at this
   exact this
 have hgx : ∀ p2 p3 p4,imX { d0 with im:=s,pin:=some (imPt p2 p3 p4) } = .grpX (imB s) (imPs d0.am p2 p3 p4):=fun p2 p3 p4=>rfl
 have hps : ∀ p2 p3 p4,pset (chM L) d0.am (.grpX (imB s) (imPs d0.am p2 p3 p4)) = chM (lim L nm s (some (imPt p2 p3 p4))):=fun p2 p3 p4=>by
   rw [← hgx]
   exact pset_lim hC.nms hC.ams h0
 have hpg : ∀ p2 p3 p4,pget (chM (lim L nm s (some (imPt p2 p3 p4)))) d0.am = some (.grpX (imB s) (imPs d0.am p2 p3 p4)):=fun p2 p3 p4=>by
   have:=(hC.toChN.lim nm s (some (imPt p2 p3 p4))).M (dk_get (dk_lim_self h0 s (some (imPt p2 p3 p4)))).1
   rw [hgx] at this
   exact this
 have hpd : ∀ p2 p3 p4,pdel (chM (lim L nm s (some (imPt p2 p3 p4)))) d0.am = pdel (chM L) d0.am:=fun p2 p3 p4=>by
   rw [← hps,pdel_pset]
 refine Fn.via (X:=Nat × Nat × Nat) (args':=fun _=>[vI (c : Int),vP 8005,vP 8006]) (B1:=fun x=>dsB8 bits room (lim L nm s (some (imPt x.1 x.2.1 x.2.2))) nm ++ (mkG bs ++ mkI d0.am x.1 x.2.1 x.2.2)) (Bi':=fun x=>dsB8 bits room (lim L nm s (some (imPt x.1 x.2.1 x.2.2))) nm) (nw':=fun _=>[]) (res':=fun _=>vL .u8 (belY bits L nm kk c)) (Bo':=fun x=>dsB8 bits room (lim L nm s (some (imPt x.1 x.2.1 x.2.2))) nm)
   (by kernel_rfl) 3 rfl ?_ (fun x=>hfn _) (fun x=>⟨rfl,rfl,rfl,rfl,rfl,rfl,trivial⟩) (fun x=>rfl) (fun x=>rfl) ?_
 · intro N C a w hsat
   have h1:=Le.loose 9000 1001 d0.am rfl N C a w (Le.markT 9000 1001 9001 d0.am rfl rfl (by decide) N C a w hsat)
   obtain ⟨p2,h2⟩:=LeX.mark 1002 9002 rfl (by decide) N C a w h1
   obtain ⟨p3,h3⟩:=LeX.mark 1003 9003 rfl (by decide) N C a w h2
   obtain ⟨p4,h4⟩:=LeX.mark 1004 9004 rfl (by decide) N C a w h3
   have h5:=Le.closeX 9100 (imB s) (fun c=>c + 8000) (imPs d0.am p2 p3 p4) ⟨rfl,rfl,rfl,rfl,trivial⟩ ⟨rfl,rfl,rfl,rfl,trivial⟩ rfl N C a w h4
   have h6:=Le.place 8006 7006 (bs 8006) rfl rfl (by decide) N C a w (Le.place 8005 7005 (bs 8005) rfl rfl (by decide) N C a w (Le.place 8004 7004 (bs 8004) rfl rfl (by decide) N C a w (Le.place 8003 7003 (bs 8003) rfl rfl (by decide) N C a w (Le.place 8002 7002 (bs 8002) rfl rfl (by decide) N C a w (Le.place 8001 7001 (bs 8001) rfl rfl (by decide) N C a w h5)))))
   have h7:=Le.openX 9000 (belG bits room L nm d0.am) (fun c=>c - 1000) bs rfl ⟨rfl,rfl,rfl,rfl,rfl,rfl,trivial⟩ rfl rfl (blkB_get (blkB_bel bits room L nm d0.am)) N C a w h6
   have h8:=Le.putX 8004 9100 d0.am rfl rfl hLm (by decide) N C a w h7
   have h9:=Le.ofAdr 1 8005 7005 (bs 8005) rfl rfl N C a w h8
   have h10:=Le.ofAdr 2 8006 7006 (bs 8006) rfl rfl N C a w h9
   have hE:=lim_E nm s (some (imPt p2 p3 p4)) L
   have hD:=lim_D nm s (some (imPt p2 p3 p4)) L
   refine ⟨(p2,p3,p4),Sat.sub h10 ⟨rfl,rfl,rfl,trivial⟩ ⟨rfl,congrArg (fun e=>some (Ch.map .str .adr e)) hE.symm,congrArg (fun e=>some (Ch.obj (.pool e))) hD.symm,congrArg (fun e=>some (Ch.obj (.pool e))) (hps p2 p3 p4),rfl,rfl,rfl,rfl,rfl,rfl,rfl,rfl,rfl,rfl,rfl,rfl,trivial⟩⟩
 · rintro ⟨p2,p3,p4⟩
   have hE:=lim_E nm s (some (imPt p2 p3 p4)) L
   have hD:=lim_D nm s (some (imPt p2 p3 p4)) L
   refine ⟨vL .u8 (belY bits L nm kk c),_,Le.trans (Le.sub (K':=[(3,vL .u8 (belY bits L nm kk c))]) (B':=dsB8 bits room (lim L nm s (some (imPt p2 p3 p4))) nm ++ (mkG bs ++ mkI d0.am p2 p3 p4)) ⟨rfl,trivial⟩ ⟨rfl,rfl,rfl,rfl,rfl,rfl,rfl,rfl,rfl,rfl,rfl,rfl,rfl,rfl,rfl,rfl,trivial⟩)
     (Le.trans (Le.takeOut 8004 9100 d0.am rfl (hpg p2 p3 p4) rfl) (Le.trans (Le.forget 9100 d0.am rfl)
     (Le.trans (Le.closeX 9000 (belG bits room L nm d0.am) (fun c=>c - 1000) bs ⟨rfl,congrArg (fun e=>some (Ch.map .str .adr e)) hE,congrArg (fun e=>some (Ch.obj (.pool e))) hD,congrArg (fun e=>some (Ch.obj (.pool e))) (hpd p2 p3 p4),rfl,rfl,trivial⟩ ⟨rfl,rfl,rfl,rfl,rfl,rfl,trivial⟩ rfl)
     (Le.trans (Le.tieM 9000 1001 9001 d0.am rfl rfl) (Le.openX 9100 (imB s) (fun c=>c + 8000) (imPs d0.am p2 p3 p4) rfl ⟨rfl,rfl,rfl,rfl,trivial⟩ rfl rfl (blkB_get (blkB_im s))))))),?_,?_,?_⟩
   · exact rfl
   · exact ⟨rfl,rfl,rfl,rfl,rfl,trivial⟩
   · rfl
/-! Chains: does,Write,Zero,Discard. -/
/-- A contract on an image laid open,and what is below it,as one on the closed image. -/
theorem imR_close {f : FuncId} {args : List SV} {res : SV} {s s' : ImS} {R : Pl → Ob} (h : Fn Tryz.prog f (vP 1001 :: args) (imR s R) [] res (imR s' R)) (h1 : closeIn 1001 [1002,1003,1004] (vP 1001 :: args) (imB s) [(9000,.dep 1001 R)] [] [] = true) (h2 : closeOut 1001 (hidOf [1002,1003,1004] [] []) res (imB s') [(9000,.dep 1001 R)] = true) :
   Fn Tryz.prog f (vP 1001 :: args) [(1001,.obj (imO s)),(9000,.dep 1001 R)] [] res [(1001,.obj (imO s')),(9000,.dep 1001 R)] :=
 Fn.close (Bl:=imB s) (Bl':=imB s') (Bi:=[(9000,.dep 1001 R)]) (Bo:=[(9000,.dep 1001 R)]) [1002,1003,1004] h (fun _ _ _ _ h=>h) (fun _ _ _ _ h=>h) h1 h2
@[reducible] def dsX (x y : D) : BL:=[(3001,.cells [.d x]),(3002,.cells [.d y])]
@[reducible] def psG (p1 p2 p3 p4 p5 p6 : Nat) : Nat → Nat:=fun c=>cond (Nat.beq c 8001) p1 (cond (Nat.beq c 8002) p2 (cond (Nat.beq c 8003) p3 (cond (Nat.beq c 8004) p4 (cond (Nat.beq c 8005) p5 p6))))
@[reducible] def vBel : SV:=.c (.one (.clo 114 [.p 8005 0,.p 8006 0]))
@[reducible] def wrB (bits room : Int) (L : List Dsk) (nm : List UInt8) (am : Nat) (s : ImS) (p1 p2 p3 p4 p5 p6 : Nat) (x y : D) : BL:=[(7000,.obj (imO s)),(9000,.dep 7000 (belR bits room L nm am (psG p1 p2 p3 p4 p5 p6)))] ++ (mkG (psG p1 p2 p3 p4 p5 p6) ++ dsX x y)
@[reducible] def wrIds : List Nat:=[8001,8002,8003,8004,8005,8006,3001,3002]
@[reducible] def wrK0 (am : Nat) : KL:=[(0,vAd am),(1,vBel),(2,vP 3001),(3,vP 3002)]
@[reducible] def wrK1 (p5 p6 : Nat) : KL:=[(0,vP 7000),(1,vFn p5 p6),(2,vP 3001),(3,vP 3002)]
theorem Le.wrIn (bits room : Int) (L : List Dsk) (nm : List UInt8) (am : Nat) (im : ImS) (hL : pget (chM L) am = some (imO im)) (x y : D) :
   LeX (X:=Nat × Nat × Nat × Nat × Nat × Nat) wrIds (wrK0 am) (dsB8 bits room L nm ++ dsX x y) (fun p=>wrK1 p.2.2.2.2.1 p.2.2.2.2.2) (fun p=>wrB bits room L nm am im p.1 p.2.1 p.2.2.1 p.2.2.2.1 p.2.2.2.2.1 p.2.2.2.2.2 x y):=by
 intro N C a w hsat
 have h1:=Le.takeOut 8004 7000 am rfl hL rfl N C a w hsat
 obtain ⟨p1,h2⟩:=LeX.mark 8001 7001 rfl (by decide) N C a w h1
 obtain ⟨p2,h3⟩:=LeX.mark 8002 7002 rfl (by decide) N C a w h2
 obtain ⟨p3,h4⟩:=LeX.mark 8003 7003 rfl (by decide) N C a w h3
 obtain ⟨p4,h5⟩:=LeX.mark 8004 7004 rfl (by decide) N C a w h4
 obtain ⟨p5,h6⟩:=LeX.mark 8005 7005 rfl (by decide) N C a w h5
 obtain ⟨p6,h7⟩:=LeX.mark 8006 7006 rfl (by decide) N C a w h6
 have h8:=Le.closeX 9000 (belG bits room L nm am) (fun c=>c - 1000) (psG p1 p2 p3 p4 p5 p6) ⟨rfl,rfl,rfl,rfl,rfl,rfl,trivial⟩ ⟨rfl,rfl,rfl,rfl,rfl,rfl,trivial⟩ rfl N C a w h7
 have h9:=Le.toFn 1 114 8005 8006 7005 7006 p5 p6 rfl rfl rfl N C a w h8
 have h10:=Le.ofAt 0 7000 am rfl rfl N C a w h9
 have h11:=Le.tie 9000 7000 am rfl rfl (by decide) N C a w h10
 exact ⟨(p1,p2,p3,p4,p5,p6),Sat.sub h11 ⟨rfl,rfl,rfl,rfl,trivial⟩ ⟨rfl,rfl,rfl,rfl,rfl,rfl,rfl,rfl,rfl,rfl,trivial⟩⟩
theorem Le.wrOut (bits room : Int) (L : List Dsk) (hN : ChN L) (nm : List UInt8) (d0 : Dsk) (h0 : dk L nm = some d0) (hp : d0.pin = none) (s : ImS) (p1 p2 p3 p4 p5 p6 : Nat) (x y : D) (r : Int) :
   Le wrIds [(6,vI r)] (wrB bits room L nm d0.am s p1 p2 p3 p4 p5 p6 x y) [(6,vI r)] (dsB8 bits room (lim L nm s none) nm ++ dsX x y):=by
 have hLm:=hN.M (dk_get h0).1
 have hE:=lim_E nm s none L
 have hD:=lim_D nm s none L
 have hM : pset (chM L) d0.am (imO s) = chM (lim L nm s none):=pset_lim (pin:=none) (im:=s) hN.nms hN.ams h0
 exact Le.trans (Le.untie 9000 7000 d0.am rfl rfl (by decide)) (Le.trans (Le.openX 9000 (belG bits room L nm d0.am) (fun c=>c - 1000) (psG p1 p2 p3 p4 p5 p6) rfl ⟨rfl,rfl,rfl,rfl,rfl,rfl,trivial⟩ rfl rfl (blkB_get (blkB_bel bits room L nm d0.am)))
   (Le.trans (Le.putAt 8004 7000 d0.am rfl rfl hLm (by decide)) (Le.sub ⟨rfl,trivial⟩ ⟨rfl,congrArg (fun e=>some (Ch.map .str .adr e)) hE.symm,congrArg (fun e=>some (Ch.obj (.pool e))) hD.symm,congrArg (fun e=>some (Ch.obj (.pool e))) hM,rfl,rfl,rfl,rfl,trivial⟩)))
theorem write1_fn (bits room : Int) (L : List Dsk) (hN : ChN L) (nm : List UInt8) (d0 : Dsk) (h0 : dk L nm = some d0) (hp : d0.pin = none) (a : Int) (bs : List UInt8) (r : Int) (s' : ImS)
   (h : ∀ ps : Nat → Nat,Fn Tryz.prog 91 [vP 1001,vI a,vL .u8 bs,vFn (ps 8005) (ps 8006)] (imR d0.im (belR bits room L nm d0.am ps)) [] (vI r) (imR s' (belR bits room L nm d0.am ps))) :
   Fn Tryz.prog 90 [vAd d0.am,vBel,vP 3001,vP 3002] (dsB8 bits room L nm ++ dsX (.int .i64 a) (.lst .u8 bs)) [] (vI r) (dsB8 bits room (lim L nm s' none) nm ++ dsX (.int .i64 a) (.lst .u8 bs)):=by
 have hLm : pget (chM L) d0.am = some (imO d0.im):=by
   have:=hN.M (dk_get h0).1
   rwa [show imX d0 = imO d0.im by unfold imX; rw [hp]] at this
 refine Fn.of tblOK [1] _ _ _ _ _ Tryz.func90 rfl rfl (by kernel_rfl) (by kernel_rfl) rfl (drawOK tblOK) rfl ?_
 show TrQ _ _ _ _ _ _ _
 refine TrQ.le (Le.sub (K':=wrK0 d0.am) (B':=dsB8 bits room L nm ++ dsX (.int .i64 a) (.lst .u8 bs)) ⟨rfl,rfl,rfl,rfl,trivial⟩ ⟨rfl,rfl,rfl,rfl,rfl,rfl,rfl,rfl,trivial⟩) ?_
 refine TrQ.leX (Le.wrIn bits room L nm d0.am d0.im hLm _ _) fun p=>?_
 obtain ⟨p1,p2,p3,p4,p5,p6⟩:=p
 refine TrQ.go tblOK (drawOK tblOK) [] (by kernel_rfl) (Le.refl _ _) ?_
 refine ⟨_,_,_,_,Fn.ren [(1001,7000)] (imR_close (h (psG p1 p2 p3 p4 p5 p6)) rfl rfl),⟨rfl,rfl,trivial⟩,rfl,?_⟩
 exact ⟨_,_,_,Le.trans (Le.sub (K':=[(6,vI r)]) (B':=wrB bits room L nm d0.am s' p1 p2 p3 p4 p5 p6 (.int .i64 a) (.lst .u8 bs)) ⟨rfl,trivial⟩ ⟨rfl,rfl,rfl,rfl,rfl,rfl,rfl,rfl,rfl,rfl,trivial⟩) (Le.wrOut bits room L hN nm d0 h0 hp s' p1 p2 p3 p4 p5 p6 _ _ r),rfl,rfl,⟨rfl,rfl,rfl,rfl,rfl,rfl,rfl,rfl,trivial⟩,rfl⟩
theorem zero1_fn (bits room : Int) (L : List Dsk) (hN : ChN L) (nm : List UInt8) (d0 : Dsk) (h0 : dk L nm = some d0) (hp : d0.pin = none) (a l : Int) (r : Int) (s' : ImS)
   (h : ∀ ps : Nat → Nat,Fn Tryz.prog 100 [vP 1001,vI a,vI l,vFn (ps 8005) (ps 8006)] (imR d0.im (belR bits room L nm d0.am ps)) [] (vI r) (imR s' (belR bits room L nm d0.am ps))) :
   Fn Tryz.prog 99 [vAd d0.am,vBel,vP 3001,vP 3002] (dsB8 bits room L nm ++ dsX (.int .i64 a) (.int .i64 l)) [] (vI r) (dsB8 bits room (lim L nm s' none) nm ++ dsX (.int .i64 a) (.int .i64 l)):=by
 have hLm : pget (chM L) d0.am = some (imO d0.im):=by
   have:=hN.M (dk_get h0).1
   rwa [show imX d0 = imO d0.im by unfold imX; rw [hp]] at this
 refine Fn.of tblOK [1] _ _ _ _ _ Tryz.func99 rfl rfl (by kernel_rfl) (by kernel_rfl) rfl (drawOK tblOK) rfl ?_
 show TrQ _ _ _ _ _ _ _
 refine TrQ.le (Le.sub (K':=wrK0 d0.am) (B':=dsB8 bits room L nm ++ dsX (.int .i64 a) (.int .i64 l)) ⟨rfl,rfl,rfl,rfl,trivial⟩ ⟨rfl,rfl,rfl,rfl,rfl,rfl,rfl,rfl,trivial⟩) ?_
 refine TrQ.leX (Le.wrIn bits room L nm d0.am d0.im hLm _ _) fun p=>?_
 obtain ⟨p1,p2,p3,p4,p5,p6⟩:=p
 refine TrQ.go tblOK (drawOK tblOK) [] (by kernel_rfl) (Le.refl _ _) ?_
 refine ⟨_,_,_,_,Fn.ren [(1001,7000)] (imR_close (h (psG p1 p2 p3 p4 p5 p6)) rfl rfl),⟨rfl,rfl,trivial⟩,rfl,?_⟩
 exact ⟨_,_,_,Le.trans (Le.sub (K':=[(6,vI r)]) (B':=wrB bits room L nm d0.am s' p1 p2 p3 p4 p5 p6 (.int .i64 a) (.int .i64 l)) ⟨rfl,trivial⟩ ⟨rfl,rfl,rfl,rfl,rfl,rfl,rfl,rfl,rfl,rfl,trivial⟩) (Le.wrOut bits room L hN nm d0 h0 hp s' p1 p2 p3 p4 p5 p6 _ _ r),rfl,rfl,⟨rfl,rfl,rfl,rfl,rfl,rfl,rfl,rfl,trivial⟩,rfl⟩
theorem discard1_fn (bits room : Int) (L : List Dsk) (hN : ChN L) (nm : List UInt8) (d0 : Dsk) (h0 : dk L nm = some d0) (hp : d0.pin = none) (a l : Int) (r : Int) (s' : ImS)
   (h : Fn Tryz.prog 102 [vP 1001,vI a,vI l] (imB d0.im) [] (vI r) (imB s')) :
   Fn Tryz.prog 101 [vAd d0.am,vBel,vP 3001,vP 3002] (dsB8 bits room L nm ++ dsX (.int .i64 a) (.int .i64 l)) [] (vI r) (dsB8 bits room (lim L nm s' none) nm ++ dsX (.int .i64 a) (.int .i64 l)):=by
 have hLm : pget (chM L) d0.am = some (imO d0.im):=by
   have:=hN.M (dk_get h0).1
   rwa [show imX d0 = imO d0.im by unfold imX; rw [hp]] at this
 have hE:=lim_E nm s' none L
 have hD:=lim_D nm s' none L
 have hM : pset (chM L) d0.am (imO s') = chM (lim L nm s' none):=pset_lim (pin:=none) (im:=s') hN.nms hN.ams h0
 have hc : Fn Tryz.prog 102 [vP 1001,vI a,vI l] [(1001,.obj (imO d0.im))] [] (vI r) [(1001,.obj (imO s'))]:=Fn.close (Bl:=imB d0.im) (Bl':=imB s') (Bi:=[]) (Bo:=[]) [1002,1003,1004] h (fun _ _ _ _ h=>h) (fun _ _ _ _ h=>h) rfl rfl
 have hq:=(FnX.pool (c:=1001) (q:=8004) (b:=d0.am) (args:=[vI a,vI l]) (Bi:=[]) (nw:=[]) (X:=Unit) (res:=fun _=>vI r) (Bo:=fun _=>[]) (o:=imO d0.im) (o':=fun _=>imO s') (L:=chM L) hc.x hLm rfl ⟨rfl,rfl⟩ rfl (fun _=>rfl)).fn
 refine Fn.of tblOK [] _ _ _ _ _ Tryz.func101 rfl rfl (by kernel_rfl) (by kernel_rfl) rfl (drawOK tblOK) rfl ?_
 refine ⟨_,_,_,_,hq,⟨rfl,trivial⟩,rfl,?_⟩
 exact ⟨_,_,_,Le.refl _ _,rfl,rfl,⟨rfl,congrArg (fun e=>some (Ch.map .str .adr e)) hE.symm,congrArg (fun e=>some (Ch.obj (.pool e))) hD.symm,congrArg (fun e=>some (Ch.obj (.pool e))) hM,rfl,rfl,rfl,rfl,trivial⟩,rfl⟩
/-! ### does -/
theorem does_fn14 (bits room : Int) (L L' : List Dsk) (hN : ChN L) (nm : List UInt8) (d0 : Dsk) (h0 : dk L nm = some d0) (f : Nat) (r : Int) (x y : D)
   (hf : Fn Tryz.prog f [vAd d0.am,vBel,vP 3001,vP 3002] (dsB8 bits room L nm ++ dsX x y) [] (vI r) (dsB8 bits room L' nm ++ dsX x y)) :
   Fn Tryz.prog 89 [vP 1001,vS nm,.c (.one (.clo f [.p 3001 0,.p 3002 0]))] (chB bits room L ++ dsX x y) [] (vI r) (chB bits room L' ++ dsX x y):=by
 obtain ⟨ia,ia1,ia2⟩:=inf_of infAdr
 have hL:=hN.D (dk_get h0).1
 have hx : (mget (ku:=.str) (vu:=.adr) (chE L) nm).getD (dflt .adr) = some d0.ad:=by rw [cget,h0]; rfl
 refine Fn.of tblOK [2] _ _ _ _ _ Tryz.func89 rfl rfl (by kernel_rfl) (by kernel_rfl) rfl (drawOK tblOK) rfl ?_
 refine ⟨rfl,?_⟩
 refine ⟨rfl,?_⟩
 refine ⟨rfl,?_⟩
 show TrQ _ _ _ _ _ _ _
 refine TrQ.go tblOK (drawOK tblOK) [] (by kernel_rfl) (Le.refl _ _) ?_
 refine ⟨fun b' hb=>?_,fun hb=>absurd (show (mget (ku:=.str) (vu:=.adr) (chE L) nm).getD (dflt .adr) = none from hb) (by rw [hx]; intro h; cases h)⟩
 refine ⟨_,_,fun N=>opOK_nilAdr (b:=d0.ad) rfl (by exact adrV_eq hx) N,rfl,?_⟩
 refine ⟨_,_,fun N=>opOK_fieldAdr rfl Tryz.underlying130 rfl rfl ia1 (by rw [ia2]; decide) rfl N,rfl,?_⟩
 refine ⟨_,_,fun N=>opOK_loadRaw (q:=1003) rfl Tryz.underlying49 rfl rfl rfl hL rfl N,rfl,?_⟩
 refine ⟨_,_,_,_,Fn.ren [(8001,1001),(8002,1002),(8003,1003),(8004,1004),(8005,3),(8006,4)] hf,⟨rfl,rfl,rfl,rfl,rfl,rfl,rfl,rfl,trivial⟩,rfl,?_⟩
 exact ⟨_,_,_,Le.refl _ _,rfl,rfl,⟨rfl,rfl,rfl,rfl,rfl,rfl,trivial⟩,rfl⟩
/-! ### Write,Zero,Discard -/
theorem chwrite_of (bits room : Int) (L L' : List Dsk) (nm : List UInt8) (a : Int) (bs : List UInt8) (r : Int)
   (h : Fn Tryz.prog 89 [vP 1001,vS nm,.c (.one (.clo 90 [.p 3001 0,.p 3002 0]))] (chB bits room L ++ dsX (.int .i64 a) (.lst .u8 bs)) [] (vI r) (chB bits room L' ++ dsX (.int .i64 a) (.lst .u8 bs))) :
   Fn Tryz.prog 50 [vP 1001,vS nm,vI a,vL .u8 bs] (chB bits room L) [] (vI r) (chB bits room L'):=by
 refine Fn.of tblOK [] _ _ _ _ _ Tryz.func50 rfl rfl (by kernel_rfl) (by kernel_rfl) rfl (drawOK tblOK) rfl ?_
 refine ⟨rfl,?_⟩
 refine ⟨rfl,?_⟩
 refine ⟨_,_,_,_,Fn.ren [(3001,6),(3002,7)] h,⟨rfl,rfl,rfl,rfl,rfl,rfl,trivial⟩,rfl,?_⟩
 exact ⟨_,_,_,Le.refl _ _,rfl,rfl,⟨rfl,rfl,rfl,rfl,trivial⟩,rfl⟩
theorem chzero_of (bits room : Int) (L L' : List Dsk) (nm : List UInt8) (a l : Int) (r : Int)
   (h : Fn Tryz.prog 89 [vP 1001,vS nm,.c (.one (.clo 99 [.p 3001 0,.p 3002 0]))] (chB bits room L ++ dsX (.int .i64 a) (.int .i64 l)) [] (vI r) (chB bits room L' ++ dsX (.int .i64 a) (.int .i64 l))) :
   Fn Tryz.prog 59 [vP 1001,vS nm,vI a,vI l] (chB bits room L) [] (vI r) (chB bits room L'):=by
 refine Fn.of tblOK [] _ _ _ _ _ Tryz.func59 rfl rfl (by kernel_rfl) (by kernel_rfl) rfl (drawOK tblOK) rfl ?_
 refine ⟨rfl,?_⟩
 refine ⟨rfl,?_⟩
 refine ⟨_,_,_,_,Fn.ren [(3001,6),(3002,7)] h,⟨rfl,rfl,rfl,rfl,rfl,rfl,trivial⟩,rfl,?_⟩
 exact ⟨_,_,_,Le.refl _ _,rfl,rfl,⟨rfl,rfl,rfl,rfl,trivial⟩,rfl⟩
theorem chdisc_of (bits room : Int) (L L' : List Dsk) (nm : List UInt8) (a l : Int) (r : Int)
   (h : Fn Tryz.prog 89 [vP 1001,vS nm,.c (.one (.clo 101 [.p 3001 0,.p 3002 0]))] (chB bits room L ++ dsX (.int .i64 a) (.int .i64 l)) [] (vI r) (chB bits room L' ++ dsX (.int .i64 a) (.int .i64 l))) :
   Fn Tryz.prog 60 [vP 1001,vS nm,vI a,vI l] (chB bits room L) [] (vI r) (chB bits room L'):=by
 refine Fn.of tblOK [] _ _ _ _ _ Tryz.func60 rfl rfl (by kernel_rfl) (by kernel_rfl) rfl (drawOK tblOK) rfl ?_
 refine ⟨rfl,?_⟩
 refine ⟨rfl,?_⟩
 refine ⟨_,_,_,_,Fn.ren [(3001,6),(3002,7)] h,⟨rfl,rfl,rfl,rfl,rfl,rfl,trivial⟩,rfl,?_⟩
 exact ⟨_,_,_,Le.refl _ _,rfl,rfl,⟨rfl,rfl,rfl,rfl,trivial⟩,rfl⟩
/-! Chains: what each call makes of them,whatever is asked. -/
theorem Fn.res {P : Program} {f : FuncId} {args : List SV} {Bi : BL} {nw : List Nat} {res res' : SV} {Bo : BL} (h : Fn P f args Bi nw res Bo) (hl : leV res res') : Fn P f args Bi nw res' Bo :=
 ⟨h.1,fun ρ F I w vals a1 a2 a3 a4 a5 a6=>(h.2 ρ F I w vals a1 a2 a3 a4 a5 a6).mono fun e w' ⟨x,ρ',F',r1,r2,r3,I',r4,r5,r6,r7,r8,r9⟩=>⟨x,ρ',F',r1,r2,r3,I',r4,r5,r6,r7,r8,leV_den hl r9⟩⟩
theorem FnX.to {P : Program} {f : FuncId} {args : List SV} {Bi : BL} {nw : List Nat} {X Y : Type} {res : X → SV} {Bo : X → BL} {res' : Y → SV} {Bo' : Y → BL} (h : FnX P f args Bi nw res Bo) (g : X → Y) (h1 : ∀ x,res x = res' (g x)) (h2 : ∀ x,Bo x = Bo' (g x)) : FnX P f args Bi nw res' Bo' :=
 ⟨h.1,fun ρ F I w vals a1 a2 a3 a4 a5 a6=>(h.2 ρ F I w vals a1 a2 a3 a4 a5 a6).mono fun e w' ⟨y,x,ρ',F',r1,r2,r3,I',r4,r5,r6,r7,r8,r9⟩=>by
   rw [h2] at r6 r7 r8
   rw [h1] at r9
   exact ⟨g y,x,ρ',F',r1,r2,r3,I',r4,r5,r6,r7,r8,r9⟩⟩
/-! ### how deep a disk is -/
def dpF (L : List Dsk) : Nat → List UInt8 → Nat
 | 0,_=>0
 | f + 1,nm=>match dk L nm with
   | none=>0
   | some d=>if d.back = [] then 0 else dpF L f d.back + 1
def dpt (L : List Dsk) (nm : List UInt8) : Nat:=dpF L 100 nm
theorem dpF_of {L : List Dsk} {nm : List UInt8} {k : Nat} (h : Dn L nm k) : ∀ f,k ≤ f → dpF L f nm = k:=by
 induction h with
 | gone h =>
   intro f _
   cases f with
   | zero=>rfl
   | succ f=>unfold dpF; rw [h]
 | base h1 h2 =>
   intro f _
   cases f with
   | zero=>rfl
   | succ f=>unfold dpF; rw [h1]; simp only; rw [if_pos h2]
 | step h1 h2 _ ih =>
   intro f hf
   cases f with
   | zero=>omega
   | succ f=>unfold dpF; rw [h1]; simp only; rw [if_neg h2,ih f (by omega)]
theorem dpt_of {L : List Dsk} {nm : List UInt8} {k : Nat} (h : Dn L nm k) (hk : k ≤ 100) : dpt L nm = k:=dpF_of h 100 hk
/-- A chain as a chain is. -/
structure CS (bits room : Nat) (L : List Dsk) : Prop extends ChOK bits room L where
 unp : Unp L
 nok : ∀ d,d ∈ L → nameOK d.nm = true
theorem nameOK_len {s : List UInt8} (h : nameOK s = true) : 1 ≤ s.length ∧ s.length ≤ 15:=by
 unfold nameOK at h
 simp only [Bool.and_eq_true] at h
 exact ⟨of_decide_eq_true h.1.1,of_decide_eq_true h.1.2⟩
section
variable {bits room : Nat} {L : List Dsk}
theorem CS.nml (h : CS bits room L) : ∀ d,d ∈ L → d.nm.length ≤ 100000:=fun d hd=>by
 have:=nameOK_len (h.nok d hd)
 omega
theorem CS.dep (h : CS bits room L) (nm : List UInt8) : Dn L nm (dpt L nm) ∧ dpt L nm ≤ 8:=by
 cases e : dk L nm with
 | none =>
   have:=Dn.gone e
   rw [dpt_of this (by omega)]
   exact ⟨this,by omega⟩
 | some d =>
   obtain ⟨k,hk,hd⟩:=h.dn d (dk_get e).1
   rw [(dk_get e).2] at hd
   rw [dpt_of hd (by omega)]
   exact ⟨hd,hk⟩
theorem CS.nil (h1 : bits ≤ 3) (h2 : room ≤ 512) : CS bits room [] :=
 ⟨⟨⟨List.nodup_nil,List.nodup_nil,List.nodup_nil⟩,h1,h2,Nat.zero_le _,(fun _ h=>by cases h),(fun _ h=>by cases h),(fun _ h=>by cases h),(fun _ h=>by cases h)⟩,(fun _ h=>by cases h),(fun _ h=>by cases h)⟩
theorem dk_mem : ∀ {L : List Dsk},(L.map (·.nm)).Nodup → ∀ {d : Dsk},d ∈ L → dk L d.nm = some d
 | [],_,d,h=>by cases h
 | e :: L,hn,d,h=>by
   rw [List.map_cons] at hn
   obtain ⟨n1,n2⟩:=List.nodup_cons.1 hn
   rw [dk_cons]
   rcases List.mem_cons.1 h with rfl | h
   · rw [if_pos rfl]
   · rw [if_neg fun x=>n1 (by rw [x]; exact List.mem_map_of_mem (f:=fun d : Dsk=>d.nm) h),dk_mem n2 h]
theorem lim_self (hn : (L.map (·.nm)).Nodup) {nm : List UInt8} {d : Dsk} (h : dk L nm = some d) (hp : d.pin = none) : lim L nm d.im none = L:=by
 unfold lim
 refine (List.map_congr_left fun e he=>?_).trans (List.map_id' L)
 unfold imD
 split
 · rename_i c
   have:=dk_mem hn he
   rw [c,h] at this
   injection this with this
   subst this
   rw [← hp]
 · rfl
theorem CS.lim (h : CS bits room L) {nm : List UInt8} {d0 : Dsk} (h0 : dk L nm = some d0) {im : ImS} (hs : Like d0.im im) : CS bits room (lim L nm im none):=by
 refine ⟨h.toChOK.lim h0 hs none,fun d hd=>?_,fun d hd=>?_⟩
 · obtain ⟨e,he,rfl⟩:=List.mem_map.1 hd
   unfold imD
   split
   · rfl
   · exact h.unp e he
 · obtain ⟨e,he,rfl⟩:=List.mem_map.1 hd
   rw [imD_nm]
   exact h.nok e he
end
/-- What a call makes of a chain: an error,the disks. -/
structure CR where
 e : Int
 L : List Dsk
/-! ### Write,Zero,Discard -/
def wrC (bits : Nat) (L : List Dsk) (nm : List UInt8) (a : Int) (bs : List UInt8) : CR:=match dk L nm with
 | none=>⟨140,L⟩
 | some d=>if bs.length % 16 ≠ 0 then ⟨1,L⟩ else if iIns d.im a ((bs.length / 16 : Nat) : Int) ≠ 0 then ⟨iIns d.im a ((bs.length / 16 : Nat) : Int),L⟩ else
   ⟨iwE d.im a.toNat (bs.length / 16),lim L nm (iwS d.im a.toNat (bs.length / 16) bs (belY bits L nm (dpt L nm))) none⟩
def zrC (bits : Nat) (L : List Dsk) (nm : List UInt8) (a l : Int) : CR:=match dk L nm with
 | none=>⟨140,L⟩
 | some d=>if iIns d.im a l ≠ 0 then ⟨iIns d.im a l,L⟩ else
   ⟨izE d.im a.toNat l.toNat,lim L nm (izS d.im a.toNat l.toNat (belY bits L nm (dpt L nm))) none⟩
def dsC (L : List Dsk) (nm : List UInt8) (a l : Int) : CR:=match dk L nm with
 | none=>⟨140,L⟩
 | some d=>if iIns d.im a l ≠ 0 then ⟨iIns d.im a l,L⟩ else ⟨0,lim L nm (idsS d.im a.toNat l.toNat) none⟩
theorem iIns_pos {s : ImS} {a l : Int} (h : iIns s a l = 0) : a = ((a.toNat : Nat) : Int) ∧ l = ((l.toNat : Nat) : Int):=by
 unfold iIns at h
 split at h
 · cases h
 · split at h
   · cases h
   · omega
section
variable {bits room : Nat} {L : List Dsk}
theorem wrC_cs (h : CS bits room L) (nm : List UInt8) (a : Int) (bs : List UInt8) : CS bits room (wrC bits L nm a bs).L:=by
 unfold wrC
 cases h0 : dk L nm with
 | none=>exact h
 | some d =>
   simp only
   split
   · exact h
   · rename_i h1
     split
     · exact h
     · rename_i h2
       have h2 : iIns d.im a ((bs.length / 16 : Nat) : Int) = 0:=Decidable.byContradiction h2
       have e:=(iIns_pos h2).1
       rw [e] at h2
       exact h.lim h0 (iwS_like (h.ims d (dk_get h0).1).1 (by omega) h2 _)
theorem zrC_cs (h : CS bits room L) (nm : List UInt8) (a l : Int) : CS bits room (zrC bits L nm a l).L:=by
 unfold zrC
 cases h0 : dk L nm with
 | none=>exact h
 | some d =>
   simp only
   split
   · exact h
   · rename_i h2
     have h2 : iIns d.im a l = 0:=Decidable.byContradiction h2
     obtain ⟨e1,e2⟩:=iIns_pos h2
     rw [e1,e2] at h2
     exact h.lim h0 (izS_like (h.ims d (dk_get h0).1).1 h2 _)
theorem dsC_cs (h : CS bits room L) (nm : List UInt8) (a l : Int) : CS bits room (dsC L nm a l).L:=by
 unfold dsC
 cases h0 : dk L nm with
 | none=>exact h
 | some d =>
   simp only
   split
   · exact h
   · rename_i h2
     have h2 : iIns d.im a l = 0:=Decidable.byContradiction h2
     obtain ⟨e1,e2⟩:=iIns_pos h2
     rw [e1,e2] at h2
     exact h.lim h0 (dsI (h.ims d (dk_get h0).1).1 (iIns_all h2) _ (Nat.le_refl _)).like
theorem bel_of (h : CS bits room L) {nm : List UInt8} {d0 : Dsk} (h0 : dk L nm = some d0) (ps : Nat → Nat) : Bel d0.im (belR bits room L nm d0.am ps) (ps 8005) (ps 8006) (belY bits L nm (dpt L nm)):=fun s' hs c hc hz=>by
 have hd:=h.dep nm
 exact belowI bits room L h.toChOK nm d0 h0 (dpt L nm) hd.1 (by omega) s' hs ps c hc hz
theorem chwrite_fn (h : CS bits room L) (nm : List UInt8) (a : Int) (bs : List UInt8) (hbl : bs.length ≤ 1000000000) :
   Fn Tryz.prog 50 [vP 1001,vS nm,vI a,vL .u8 bs] (chB bits room L) [] (vI (wrC bits L nm a bs).e) (chB bits room (wrC bits L nm a bs).L):=by
 unfold wrC
 cases h0 : dk L nm with
 | none=>exact chwrite_of bits room L L nm a bs 140 (does_no bits room L nm h0 _ _ _)
 | some d =>
   have hp:=h.unp d (dk_get h0).1
   have ho:=(h.ims d (dk_get h0).1).1
   have key : ∀ (r : Int) (s' : ImS),(∀ ps : Nat → Nat,Fn Tryz.prog 91 [vP 1001,vI a,vL .u8 bs,vFn (ps 8005) (ps 8006)] (imR d.im (belR bits room L nm d.am ps)) [] (vI r) (imR s' (belR bits room L nm d.am ps))) →
       Fn Tryz.prog 50 [vP 1001,vS nm,vI a,vL .u8 bs] (chB bits room L) [] (vI r) (chB bits room (lim L nm s' none)):=fun r s' hi =>
     chwrite_of bits room L _ nm a bs r (does_fn14 bits room L _ h.toChN nm d h0 _ r _ _ (write1_fn bits room L h.toChN nm d h0 hp a bs r s' hi))
   simp only
   split
   · rename_i h1
     have:=key 1 d.im fun ps=>iwrite_odd d.im _ _ _ a bs h1 hbl
     rwa [lim_self h.nms h0 hp] at this
   · rename_i h1
     have h1 : bs.length = 16 * (bs.length / 16):=by omega
     split
     · rename_i h2
       have:=key _ d.im fun ps=>iwrite_end d.im _ _ _ ho a _ bs h1 (by omega) h2
       rwa [lim_self h.nms h0 hp] at this
     · rename_i h2
       have h2 : iIns d.im a ((bs.length / 16 : Nat) : Int) = 0:=Decidable.byContradiction h2
       have e:=(iIns_pos h2).1
       have h3:=h2
       rw [e] at h3
       refine key _ _ fun ps=>?_
       have:=iwrite_fn d.im _ _ _ ho a.toNat _ bs h1 h3 _ (bel_of h h0 ps)
       rwa [← e] at this
theorem chzero_fn (h : CS bits room L) (nm : List UInt8) (a l : Int) :
   Fn Tryz.prog 59 [vP 1001,vS nm,vI a,vI l] (chB bits room L) [] (vI (zrC bits L nm a l).e) (chB bits room (zrC bits L nm a l).L):=by
 unfold zrC
 cases h0 : dk L nm with
 | none=>exact chzero_of bits room L L nm a l 140 (does_no bits room L nm h0 _ _ _)
 | some d =>
   have hp:=h.unp d (dk_get h0).1
   have ho:=(h.ims d (dk_get h0).1).1
   have key : ∀ (r : Int) (s' : ImS),(∀ ps : Nat → Nat,Fn Tryz.prog 100 [vP 1001,vI a,vI l,vFn (ps 8005) (ps 8006)] (imR d.im (belR bits room L nm d.am ps)) [] (vI r) (imR s' (belR bits room L nm d.am ps))) →
       Fn Tryz.prog 59 [vP 1001,vS nm,vI a,vI l] (chB bits room L) [] (vI r) (chB bits room (lim L nm s' none)):=fun r s' hi =>
     chzero_of bits room L _ nm a l r (does_fn14 bits room L _ h.toChN nm d h0 _ r _ _ (zero1_fn bits room L h.toChN nm d h0 hp a l r s' hi))
   simp only
   split
   · rename_i h2
     have:=key _ d.im fun ps=>izero_end d.im _ _ _ ho a l h2
     rwa [lim_self h.nms h0 hp] at this
   · rename_i h2
     have h2 : iIns d.im a l = 0:=Decidable.byContradiction h2
     obtain ⟨e1,e2⟩:=iIns_pos h2
     have h3:=h2
     rw [e1,e2] at h3
     refine key _ _ fun ps=>?_
     have:=izero_fn d.im _ _ _ ho a.toNat l.toNat h3 _ (bel_of h h0 ps)
     rwa [← e1,← e2] at this
theorem chdisc_fn (h : CS bits room L) (nm : List UInt8) (a l : Int) :
   Fn Tryz.prog 60 [vP 1001,vS nm,vI a,vI l] (chB bits room L) [] (vI (dsC L nm a l).e) (chB bits room (dsC L nm a l).L):=by
 unfold dsC
 cases h0 : dk L nm with
 | none=>exact chdisc_of bits room L L nm a l 140 (does_no bits room L nm h0 _ _ _)
 | some d =>
   have hp:=h.unp d (dk_get h0).1
   have ho:=(h.ims d (dk_get h0).1).1
   have key : ∀ (r : Int) (s' : ImS),Fn Tryz.prog 102 [vP 1001,vI a,vI l] (imB d.im) [] (vI r) (imB s') →
       Fn Tryz.prog 60 [vP 1001,vS nm,vI a,vI l] (chB bits room L) [] (vI r) (chB bits room (lim L nm s' none)):=fun r s' hi =>
     chdisc_of bits room L _ nm a l r (does_fn14 bits room L _ h.toChN nm d h0 _ r _ _ (discard1_fn bits room L h.toChN nm d h0 hp a l r s' hi))
   simp only
   split
   · rename_i h2
     have:=key _ d.im (idiscard_end d.im ho a l h2)
     rwa [lim_self h.nms h0 hp] at this
   · rename_i h2
     have h2 : iIns d.im a l = 0:=Decidable.byContradiction h2
     obtain ⟨e1,e2⟩:=iIns_pos h2
     have h3:=h2
     rw [e1,e2] at h3
     have:=idiscard_fn d.im ho a.toNat l.toNat h3
     rw [← e1,← e2] at this
     exact key _ _ this
/-! ### Read,Depth,Backing,Names,Users -/
def rdC (bits : Nat) (L : List Dsk) (nm : List UInt8) (a l : Int) : List UInt8 × Int:=match dk L nm with
 | none=>([],140)
 | some d=>if iIns d.im a l = 0 then (crdK bits L nm (dpt L nm) a.toNat l.toNat,0) else ([],iIns d.im a l)
theorem chread_fn (h : CS bits room L) (nm : List UInt8) (a l : Int) :
   Fn Tryz.prog 51 [vP 1001,vS nm,vI a,vI l] (chB bits room L) [] (.tup [.one (.d (.lst .u8 (rdC bits L nm a l).1)),vErr (rdC bits L nm a l).2]) (chB bits room L):=by
 unfold rdC
 cases h0 : dk L nm with
 | none=>exact (chread_none bits room L nm h0 a l).res ⟨rfl,rfl,trivial⟩
 | some d =>
   simp only
   split
   · rename_i h2
     obtain ⟨e1,e2⟩:=iIns_pos h2
     have h3:=h2
     rw [e1,e2] at h3
     have hd:=h.dep nm
     have:=chread_ok bits room L h.toChOK nm d h0 (dpt L nm) hd.1 (by omega) a.toNat l.toNat h3
     rwa [← e1,← e2] at this
   · rename_i h2
     exact (chread_end bits room L h.toChOK nm d h0 a l h2).res ⟨rfl,rfl,trivial⟩
def bkC (L : List Dsk) (nm : List UInt8) : List UInt8 × Int:=match dk L nm with
 | none=>([],140)
 | some d=>(d.back,0)
theorem chback_fn (h : CS bits room L) (nm : List UInt8) : Fn Tryz.prog 66 [vP 1001,vS nm] (chB bits room L) [] (.tup [.one (.d (.str (bkC L nm).1)),vErr (bkC L nm).2]) (chB bits room L):=by
 unfold bkC
 cases h0 : dk L nm with
 | none=>exact backing_no bits room L nm h0
 | some d=>exact backing_fn bits room L h.toChN nm d h0
/-! ### Add -/
def adC (bits room : Nat) (L : List Dsk) (nm : List UInt8) (size : Int) (back : List UInt8) (p : Nat × Nat) : CR :=
 if (nameOK nm && newMay bits size room) = false then ⟨1,L⟩ else if (dk L nm).isSome = true ∨ 16 ≤ L.length then ⟨143,L⟩ else if (decide (back = []) || (dk L back).isSome) = false then ⟨140,L⟩
 else if back ≠ [] ∧ 8 < dpt L back + 1 then ⟨142,L⟩ else ⟨0,adD L nm back p.1 p.2 (iNew bits size.toNat room)⟩
theorem dk_app (L M : List Dsk) (nm : List UInt8) : dk (L ++ M) nm = (dk L nm).or (dk M nm):=by
 unfold dk
 rw [List.find?_append]
theorem dk_add {nm back : List UInt8} {ad am : Nat} {im : ImS} (n : List UInt8) : dk (adD L nm back ad am im) n = (dk L n).or (if nm = n then some ⟨nm,back,ad,am,im,none⟩ else none):=by
 show dk (L ++ _) n = _
 rw [dk_app,dk_cons]
 rfl
/-- Whatever keeps the disks keeps the depths. -/
theorem dn_keep {L' : List Dsk} (hk : ∀ n d,dk L n = some d → ∃ d',dk L' n = some d' ∧ d'.back = d.back) (hkn : ∀ d,d ∈ L → d.back ≠ [] → ∃ e,dk L d.back = some e) {n : List UInt8} {k : Nat} (h : Dn L n k) : (∃ d,dk L n = some d) → Dn L' n k:=by
 induction h with
 | gone h=>rintro ⟨d,hd⟩; rw [h] at hd; cases hd
 | base h1 h2 =>
   intro _
   obtain ⟨d',e1,e2⟩:=hk _ _ h1
   exact .base e1 (by rw [e2]; exact h2)
 | step h1 h2 h3 ih =>
   intro _
   obtain ⟨d',e1,e2⟩:=hk _ _ h1
   exact .step e1 (by rw [e2]; exact h2) (by rw [e2]; exact ih (hkn _ (dk_get h1).1 h2))
theorem newMay_get {bits size room : Int} (h : newMay bits size room = true) : (0 ≤ size ∧ size ≤ 256) ∧ (0 ≤ room ∧ room ≤ 512) ∧ 0 ≤ bits ∧ bits ≤ 3:=by
 unfold newMay at h
 simp only [Bool.and_eq_true,decide_eq_true_eq] at h
 omega
theorem CS.add (h : CS bits room L) {nm back : List UInt8} {size ad am : Nat} (hN : ChN (adD L nm back ad am (iNew bits size room))) (hs : size ≤ 256) (hn : nameOK nm = true) (h0 : dk L nm = none) (h16 : L.length < 16) (hb : back = [] ∨ (dk L back).isSome = true ∧ dpt L back + 1 ≤ 8) : CS bits room (adD L nm back ad am (iNew bits size room)):=by
 have hkeep : ∀ n d,dk L n = some d → dk (adD L nm back ad am (iNew bits size room)) n = some d:=fun n d hd=>by rw [dk_add,hd]; rfl
 have hself : dk (adD L nm back ad am (iNew bits size room)) nm = some ⟨nm,back,ad,am,iNew bits size room,none⟩:=by rw [dk_add,h0,if_pos rfl]; rfl
 have hpart : ∀ d,d ∈ adD L nm back ad am (iNew bits size room) → d ∈ L ∨ d = ⟨nm,back,ad,am,iNew bits size room,none⟩:=fun d hd=>by
   rcases List.mem_append.1 hd with hd | hd
   · exact .inl hd
   · exact .inr (List.mem_singleton.1 hd)
 have hold : ∀ n k,(∃ d,dk L n = some d) → Dn L n k → Dn (adD L nm back ad am (iNew bits size room)) n k:=fun n k hd hk=>dn_keep (fun n d hd=>⟨d,hkeep n d hd,rfl⟩) h.kn hk hd
 refine ⟨⟨hN,h.b3,h.r512,by rw [List.length_append]; exact h16,fun d hd=>?_,fun d hd hbk=>?_,fun d hd=>?_,fun d hd=>?_⟩,fun d hd=>?_,fun d hd=>?_⟩
 · rcases hpart d hd with hd | rfl
   · exact h.ims d hd
   · exact ⟨iNew_ok h.b3 hs h.r512,rfl,List.length_replicate ..⟩
 · rcases hpart d hd with hd | rfl
   · obtain ⟨e,he⟩:=h.kn d hd hbk
     exact ⟨e,hkeep _ _ he⟩
   · rcases hb with hb | ⟨hb,_⟩
     · exact absurd hb hbk
     · obtain ⟨e,he⟩:=Option.isSome_iff_exists.1 hb
       exact ⟨e,hkeep _ _ he⟩
 · rcases hpart d hd with hd | rfl
   · exact h.ne d hd
   · intro e
     have:=(nameOK_len hn).1
     have e : nm = []:=e
     rw [e] at this
     exact absurd this (by decide)
 · rcases hpart d hd with hd | rfl
   · obtain ⟨k,hk,hdn⟩:=h.dn d hd
     exact ⟨k,hk,hold _ _ ⟨d,dk_mem h.nms hd⟩ hdn⟩
   · by_cases hbe : back = []
     · exact ⟨0,Nat.zero_le _,.base hself hbe⟩
     · rcases hb with hb | ⟨hb,hb8⟩
       · exact absurd hb hbe
       · exact ⟨dpt L back + 1,hb8,.step hself hbe (hold _ _ (Option.isSome_iff_exists.1 hb) (h.dep back).1)⟩
 · rcases hpart d hd with hd | rfl
   · exact h.unp d hd
   · rfl
 · rcases hpart d hd with hd | rfl
   · exact h.nok d hd
   · exact hn
theorem chadd_fn (h : CS bits room L) (nm : List UInt8) (size : Int) (back : List UInt8) (hl : nm.length ≤ 4294967296) :
   FnX Tryz.prog 49 [vP 1001,vS nm,vI size,vS back] (chB bits room L) [] (X:={ p : Nat × Nat // CS bits room (adC bits room L nm size back p).L }) (fun p=>vI (adC bits room L nm size back p.1).e) (fun p=>chB bits room (adC bits room L nm size back p.1).L):=by
 have err : ∀ e : Int,(∀ p,adC bits room L nm size back p = ⟨e,L⟩) → Fn Tryz.prog 49 [vP 1001,vS nm,vI size,vS back] (chB bits room L) [] (vI e) (chB bits room L) →
     FnX Tryz.prog 49 [vP 1001,vS nm,vI size,vS back] (chB bits room L) [] (X:={ p : Nat × Nat // CS bits room (adC bits room L nm size back p).L }) (fun p=>vI (adC bits room L nm size back p.1).e) (fun p=>chB bits room (adC bits room L nm size back p.1).L):=fun e he hf =>
   hf.x.to (fun _=>⟨(0,0),by rw [he]; exact h⟩) (fun _=>by rw [he]) (fun _=>by rw [he])
 by_cases h1 : (nameOK nm && newMay bits size room) = false
 · exact err 1 (fun p=>if_pos h1) (add_arg bits room size L nm back hl h1)
 have h1' : nameOK nm = true ∧ newMay bits size room = true:=by
   rw [Bool.not_eq_false,Bool.and_eq_true] at h1
   exact h1
 obtain ⟨⟨s0,s1⟩,_⟩:=newMay_get h1'.2
 obtain ⟨sn,rfl⟩ : ∃ n : Nat,size = (n : Int):=⟨size.toNat,by omega⟩
 have hs : sn ≤ 256:=by omega
 by_cases h2 : (dk L nm).isSome = true ∨ 16 ≤ L.length
 · exact err 143 (fun p=>(if_neg h1).trans (if_pos h2)) (add_there bits sn room h.b3 hs h.r512 L nm back hl h1'.1 h2)
 have h0 : dk L nm = none:=by
   cases e : dk L nm with
   | none=>rfl
   | some d=>exact absurd (.inl (by rw [e]; rfl)) h2
 have h16 : L.length < 16:=by
   rcases Nat.lt_or_ge L.length 16 with hh | hh
   · exact hh
   · exact absurd (.inr hh) h2
 by_cases h3 : (decide (back = []) || (dk L back).isSome) = false
 · exact err 140 (fun p=>(if_neg h1).trans ((if_neg h2).trans (if_pos h3))) (add_unk bits sn room h.b3 hs h.r512 L nm back hl h1'.1 h0 h16 h3)
 have hd:=h.dep back
 by_cases h4 : back ≠ [] ∧ 8 < dpt L back + 1
 · have hb : (dk L back).isSome = true:=by
     rw [Bool.not_eq_false,Bool.or_eq_true] at h3
     exact h3.resolve_left fun e=>h4.1 (of_decide_eq_true e)
   exact err 142 (fun p=>(if_neg h1).trans ((if_neg h2).trans ((if_neg h3).trans (if_pos h4)))) (add_deep bits sn room h.b3 hs h.r512 L h.toChN nm back hl h1'.1 h0 h16 h4.1 hb _ hd.1 (by omega) h4.2)
 have hb : back = [] ∨ (dk L back).isSome = true ∧ dpt L back + 1 ≤ 8:=by
   by_cases e : back = []
   · exact .inl e
   · rw [Bool.not_eq_false,Bool.or_eq_true] at h3
     have h8 : ¬ 8 < dpt L back + 1:=fun x=>h4 ⟨e,x⟩
     exact .inr ⟨h3.resolve_left fun x=>e (of_decide_eq_true x),by omega⟩
 have hE : ∀ p,adC bits room L nm (sn : Int) back p = ⟨0,adD L nm back p.1 p.2 (iNew bits sn room)⟩:=fun p=>(if_neg h1).trans ((if_neg h2).trans ((if_neg h3).trans (if_neg h4)))
 exact (add_ok bits sn room h.b3 hs h.r512 L h.toChN h.unp nm back hl h1'.1 h0 h16 (dpt L back) (hb.imp id fun x=>⟨x.1,hd.1,x.2⟩)).to (fun p=>⟨p.1,by rw [hE]; exact h.add p.2 hs h1'.1 h0 h16 hb⟩) (fun p=>by rw [hE]) (fun p=>by rw [hE])
/-! ### Remove -/
def rmC (L : List Dsk) (nm : List UInt8) : CR:=match dk L nm with
 | none=>⟨140,L⟩
 | some _=>if usrS L nm = [] then ⟨0,ldel L nm⟩ else ⟨143,L⟩
theorem dk_ldel {nm n : List UInt8} (hne : n ≠ nm) : ∀ L : List Dsk,dk (ldel L nm) n = dk L n
 | []=>rfl
 | d :: L=>by
   unfold ldel
   by_cases c : d.nm = nm
   · rw [if_pos c,dk_cons,if_neg fun e=>hne (e.symm.trans c)]
   · rw [if_neg c,dk_cons,dk_cons,dk_ldel hne L]
theorem usr_iff (h : CS bits room L) {nm : List UInt8} (hne : nm ≠ []) {d : Dsk} (hd : d ∈ L) : d.nm ∈ usrS L nm ↔ d.back = nm:=by
 unfold usrS
 rw [List.mem_filter]
 have hm : d.nm ∈ nmsS L:=by
   unfold nmsS keysS
   rw [List.mem_mergeSort,mkeys_chE]
   exact List.mem_map_of_mem hd
 unfold isUsr
 rw [dk_mem h.nms hd,decide_eq_false hne]
 simp [hm]
theorem CS.del (h : CS bits room L) {nm : List UInt8} {d0 : Dsk} (h0 : dk L nm = some d0) (hu : usrS L nm = []) : CS bits room (ldel L nm):=by
 have hnn : nm ≠ []:=by rw [← (dk_get h0).2]; exact h.ne d0 (dk_get h0).1
 have hno : ∀ d,d ∈ L → d.back ≠ nm:=fun d hd e=>by
   have:=(usr_iff h hnn hd).2 e
   rw [hu] at this
   cases this
 have hkeep : ∀ d,d ∈ L → d.back ≠ [] → dk (ldel L nm) d.back = dk L d.back:=fun d hd _=>dk_ldel (hno d hd) L
 have hN:=h.toChN.del nm
 have hnot : ∀ d,d ∈ ldel L nm → d.nm ≠ nm:=fun d hd e=>by
   have key : ∀ {M : List Dsk},(M.map (·.nm)).Nodup → d ∈ ldel M nm → d.nm = nm → (∃ e,dk M nm = some e) → False:=by
     intro M
     induction M with
     | nil=>intro _ hd _ _; cases hd
     | cons x M ih =>
       intro hn hd e hx
       rw [List.map_cons] at hn
       obtain ⟨n1,n2⟩:=List.nodup_cons.1 hn
       unfold ldel at hd
       by_cases c : x.nm = nm
       · rw [if_pos c] at hd
         exact n1 (by rw [c,← e]; exact List.mem_map_of_mem (f:=fun d : Dsk=>d.nm) hd)
       · rw [if_neg c] at hd
         rcases List.mem_cons.1 hd with rfl | hd
         · exact c e
         · refine ih n2 hd e ?_
           obtain ⟨y,hy⟩:=hx
           rw [dk_cons,if_neg c] at hy
           exact ⟨y,hy⟩
   exact key h.nms hd e ⟨d0,h0⟩
 have hdn : ∀ {n : List UInt8} {k : Nat},Dn L n k → n ≠ nm → (∃ d,dk L n = some d) → Dn (ldel L nm) n k:=by
   intro n k hh
   induction hh with
   | gone hg=>rintro _ ⟨d,hd⟩; rw [hg] at hd; cases hd
   | base h1 h2=>intro hne _; exact .base (by rw [dk_ldel hne]; exact h1) h2
   | step h1 h2 h3 ih=>intro hne _; exact .step (by rw [dk_ldel hne]; exact h1) h2 (ih (hno _ (dk_get h1).1) (h.kn _ (dk_get h1).1 h2))
 refine ⟨⟨hN,h.b3,h.r512,Nat.le_trans (ldel_sub L nm).length_le h.len,fun d hd=>h.ims d (ldel_mem hd),fun d hd hb=>?_,fun d hd=>h.ne d (ldel_mem hd),fun d hd=>?_⟩,fun d hd=>h.unp d (ldel_mem hd),fun d hd=>h.nok d (ldel_mem hd)⟩
 · rw [hkeep d (ldel_mem hd) hb]
   exact h.kn d (ldel_mem hd) hb
 · obtain ⟨k,hk,hh⟩:=h.dn d (ldel_mem hd)
   exact ⟨k,hk,hdn hh (hnot d hd) ⟨d,dk_mem h.nms (ldel_mem hd)⟩⟩
theorem rmC_cs (h : CS bits room L) (nm : List UInt8) : CS bits room (rmC L nm).L:=by
 unfold rmC
 cases h0 : dk L nm with
 | none=>exact h
 | some d =>
   simp only
   split
   · rename_i hu
     exact h.del h0 hu
   · exact h
theorem chremove_fn (h : CS bits room L) (nm : List UInt8) : Fn Tryz.prog 52 [vP 1001,vS nm] (chB bits room L) [] (vI (rmC L nm).e) (chB bits room (rmC L nm).L):=by
 unfold rmC
 cases h0 : dk L nm with
 | none=>exact remove_none bits room L nm h0
 | some d =>
   simp only
   split
   · rename_i hu
     exact remove_fn bits room L h.toChN h.nml (by have:=h.len; omega) nm d h0 hu
   · rename_i hu
     exact remove_use bits room L h.toChN h.nml (by have:=h.len; omega) nm d h0 hu
/-! ### Rebase -/
def rbC (L : List Dsk) (nm back : List UInt8) : CR :=
 if (dk L nm).isSome = false ∨ (decide (back = []) || (dk L back).isSome) = false then ⟨140,L⟩ else if nm = back ∨ nm ∈ bl L (dpt L back) back then ⟨141,L⟩
 else if ∀ n ∈ nmsS L,dpt (lset L nm back) n ≤ 8 then ⟨0,lset L nm back⟩ else ⟨142,L⟩
theorem rbD_back_ne {nm back : List UInt8} {d : Dsk} (h : d.nm ≠ nm) : rbD nm back d = d:=by unfold rbD; rw [if_neg h]
theorem rbD_back {nm back : List UInt8} {d : Dsk} (h : d.nm = nm) : (rbD nm back d).back = back:=by unfold rbD; rw [if_pos h]
/-- The way down from where it does not come by is as it was. -/
theorem dn_lset_off {nm back : List UInt8} {n : List UInt8} {k : Nat} (h : Dn L n k) : n ≠ nm → nm ∉ bl L k n → Dn (lset L nm back) n k:=by
 induction h with
 | gone h=>intro _ _; exact .gone (by rw [dk_lset,h]; rfl)
 | @base n d h1 h2 =>
   intro hne _
   have e:=(dk_get h1).2
   exact .base (d:=d) (by rw [dk_lset,h1]; show some (rbD nm back d) = _; rw [rbD_back_ne (by rw [e]; exact hne)]) h2
 | @step n d k h1 h2 h3 ih =>
   intro hne hb
   have e:=(dk_get h1).2
   unfold bl at hb
   rw [h1] at hb
   simp only [List.mem_cons,not_or] at hb
   exact .step (d:=d) (by rw [dk_lset,h1]; show some (rbD nm back d) = _; rw [rbD_back_ne (by rw [e]; exact hne)]) h2 (ih (fun x=>hb.1 x.symm) hb.2)
theorem dn_lset {nm back : List UInt8} {k : Nat} (hD : Dn L back k) (h1 : nm ≠ back) (h2 : nm ∉ bl L k back) {n : List UInt8} {j : Nat} (h : Dn L n j) : ∃ i,i ≤ j + k + 1 ∧ Dn (lset L nm back) n i:=by
 have hoff : Dn (lset L nm back) back k:=dn_lset_off hD (Ne.symm h1) h2
 have hself : ∀ d,dk L nm = some d → ∃ i,i ≤ k + 1 ∧ Dn (lset L nm back) nm i:=fun d hd=>by
   have e : dk (lset L nm back) nm = some (rbD nm back d):=by rw [dk_lset,hd]; rfl
   have eb:=rbD_back (back:=back) (dk_get hd).2
   by_cases hb : back = []
   · exact ⟨0,Nat.zero_le _,.base e (by rw [eb]; exact hb)⟩
   · exact ⟨k + 1,Nat.le_refl _,.step e (by rw [eb]; exact hb) (by rw [eb]; exact hoff)⟩
 induction h with
 | gone h=>exact ⟨0,Nat.zero_le _,.gone (by rw [dk_lset,h]; rfl)⟩
 | @base n d g1 g2 =>
   have e:=(dk_get g1).2
   by_cases c : n = nm
   · subst c
     obtain ⟨i,hi,hd⟩:=hself d g1
     exact ⟨i,by omega,hd⟩
   · exact ⟨0,Nat.zero_le _,.base (d:=d) (by rw [dk_lset,g1]; show some (rbD nm back d) = _; rw [rbD_back_ne (by rw [e]; exact c)]) g2⟩
 | @step n d j g1 g2 g3 ih =>
   have e:=(dk_get g1).2
   by_cases c : n = nm
   · subst c
     obtain ⟨i,hi,hd⟩:=hself d g1
     exact ⟨i,by omega,hd⟩
   · obtain ⟨i,hi,hd⟩:=ih
     exact ⟨i + 1,by omega,.step (d:=d) (by rw [dk_lset,g1]; show some (rbD nm back d) = _; rw [rbD_back_ne (by rw [e]; exact c)]) g2 hd⟩
theorem CS.depR (h : CS bits room L) {nm back : List UInt8} (h1 : nm ≠ back) (h2 : nm ∉ bl L (dpt L back) back) (n : List UInt8) : Dn (lset L nm back) n (dpt (lset L nm back) n) ∧ dpt (lset L nm back) n ≤ 20:=by
 have hb:=h.dep back
 have hn:=h.dep n
 obtain ⟨i,hi,hd⟩:=dn_lset hb.1 h1 h2 hn.1
 rw [dpt_of hd (by omega)]
 exact ⟨hd,by omega⟩
theorem rebase_kn {nm back : List UInt8} (h : ¬ ((dk L nm).isSome = false ∨ (decide (back = []) || (dk L back).isSome) = false)) : (∃ d,dk L nm = some d) ∧ (decide (back = []) || (dk L back).isSome) = true:=by
 constructor
 · cases e : dk L nm with
   | none=>exact absurd (.inl (by rw [e]; rfl)) h
   | some d=>exact ⟨d,rfl⟩
 · cases e : (decide (back = []) || (dk L back).isSome) with
   | false=>exact absurd (.inr e) h
   | true=>rfl
theorem CS.set (h : CS bits room L) {nm back : List UInt8} (hk : (decide (back = []) || (dk L back).isSome) = true) (h1 : nm ≠ back) (h2 : nm ∉ bl L (dpt L back) back) (h8 : ∀ n ∈ nmsS L,dpt (lset L nm back) n ≤ 8) : CS bits room (lset L nm back):=by
 have key : ∀ d,d ∈ lset L nm back → ∃ e,e ∈ L ∧ rbD nm back e = d:=fun d hd=>by
   obtain ⟨e,he,rfl⟩:=List.mem_map.1 hd
   exact ⟨e,he,rfl⟩
 refine ⟨⟨h.toChN.lset nm back,h.b3,h.r512,by unfold lset; rw [List.length_map]; exact h.len,fun d hd=>?_,fun d hd hb=>?_,fun d hd=>?_,fun d hd=>?_⟩,fun d hd=>?_,fun d hd=>?_⟩
 · obtain ⟨e,he,rfl⟩:=key d hd
   rw [rbD_im]
   exact h.ims e he
 · obtain ⟨e,he,rfl⟩:=key d hd
   have kn : ∃ x,dk L (rbD nm back e).back = some x:=by
     by_cases c : e.nm = nm
     · rw [rbD_back c] at hb ⊢
       rw [Bool.or_eq_true] at hk
       exact Option.isSome_iff_exists.1 (hk.resolve_left fun x=>hb (of_decide_eq_true x))
     · rw [rbD_back_ne c] at hb ⊢
       exact h.kn e he hb
   obtain ⟨x,hx⟩:=kn
   exact ⟨rbD nm back x,by rw [dk_lset,hx]; rfl⟩
 · obtain ⟨e,he,rfl⟩:=key d hd
   rw [rbD_nm]
   exact h.ne e he
 · obtain ⟨e,he,rfl⟩:=key d hd
   rw [rbD_nm]
   have hm : e.nm ∈ nmsS L:=by
     unfold nmsS keysS
     rw [List.mem_mergeSort,mkeys_chE]
     exact List.mem_map_of_mem he
   exact ⟨_,h8 _ hm,(h.depR h1 h2 e.nm).1⟩
 · obtain ⟨e,he,rfl⟩:=key d hd
   rw [rbD_pin]
   exact h.unp e he
 · obtain ⟨e,he,rfl⟩:=key d hd
   rw [rbD_nm]
   exact h.nok e he
theorem rbC_cs (h : CS bits room L) (nm back : List UInt8) : CS bits room (rbC L nm back).L:=by
 unfold rbC
 split
 · exact h
 · rename_i h1
   split
   · exact h
   · rename_i h2
     split
     · rename_i h3
       exact h.set (rebase_kn h1).2 (fun e=>h2 (.inl e)) (fun e=>h2 (.inr e)) h3
     · exact h
theorem chrebase_fn (h : CS bits room L) (nm back : List UInt8) : Fn Tryz.prog 53 [vP 1001,vS nm,vS back] (chB bits room L) [] (vI (rbC L nm back).e) (chB bits room (rbC L nm back).L):=by
 have hd:=h.dep back
 by_cases h1 : (dk L nm).isSome = false ∨ (decide (back = []) || (dk L back).isSome) = false
 · rw [show rbC L nm back = ⟨140,L⟩ from if_pos h1]
   exact rebase_unk bits room L nm back h1
 obtain ⟨⟨d,hdk⟩,hk⟩:=rebase_kn h1
 by_cases h2 : nm = back ∨ nm ∈ bl L (dpt L back) back
 · rw [show rbC L nm back = ⟨141,L⟩ from (if_neg h1).trans (if_pos h2)]
   exact rebase_loop bits room L h.toChN nm back d hdk hk _ hd.1 (by omega) h2
 have hR:=fun n=>h.depR (back:=back) (fun e=>h2 (.inl e)) (fun e=>h2 (.inr e)) n
 refine rebase_fn bits room L h.toChN h.nml (by have:=h.len; omega) nm back d hdk hk _ hd.1 (by omega) h2 (fun n=>dpt (lset L nm back) n) (fun n _=>⟨(hR n).1,by have:=(hR n).2; omega⟩) _ _ (fun hh=>?_) (fun hh=>?_)
 · rw [show rbC L nm back = ⟨0,lset L nm back⟩ from (if_neg h1).trans ((if_neg h2).trans (if_pos hh))]
   exact ⟨rfl,rfl⟩
 · have hno : ¬ ∀ n ∈ nmsS L,dpt (lset L nm back) n ≤ 8:=fun hall=>by
     obtain ⟨n,hn,h8⟩:=hh
     have:=hall n hn
     omega
   rw [show rbC L nm back = ⟨142,L⟩ from (if_neg h1).trans ((if_neg h2).trans (if_neg hno))]
   exact ⟨rfl,rfl⟩
end
end Go.Proofs.YteoamepgonpdlaaGreat
