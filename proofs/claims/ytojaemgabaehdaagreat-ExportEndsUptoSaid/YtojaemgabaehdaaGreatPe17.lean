/-
Part 17 of the proof that stands in YtojaemgabaehdaaGreatPeRow, with what it needs from the parts ahead; the parts of this text: Eh, Lz, Lt, El, Nc, Nd.
-/
import Derived.Test.YtojaemgabaehdaaGreatPe16
/-!
  Export: part, extents, status, dirty; answers of any directory.
-/
namespace Go.Proofs.YtojaemgabaehdaaGreat
set_option linter.unusedVariables false
set_option linter.unusedSimpArgs false
set_option maxRecDepth 10000
open Go.RowKit Go.Proofs
/-! ### extents -/
@[reducible] def xtF (x : Xt) : List Fd := [(4, x.2.1), (1, x.2.2)]
def xtB1 (x : Xt) : List UInt8 := if fdOK (xtF x) = true then fdB (xtF x) else []
def xtsB (l : List Xt) : List UInt8 := l.flatMap xtB1
theorem xtF_W (x : Xt) : ∀ f, f ∈ xtF x → W f.1 := by
 intro f hf
 simp only [xtF, List.mem_cons, List.not_mem_nil, or_false] at hf
 unfold W
 rcases hf with rfl | rfl <;> simp
theorem xtB1_len (x : Xt) : (xtB1 x).length ≤ 5 := by
 unfold xtB1
 split
 · show (encR x.2.1.toNat 4 ++ (encR x.2.2.toNat 1 ++ [])).length ≤ 5
   rw [List.length_append, List.length_append, encR_length, encR_length]
   exact Nat.le_refl 5
 · exact Nat.zero_le _
theorem xtsB_len (l : List Xt) : (xtsB l).length ≤ 5 * l.length := by
 induction l with
 | nil => exact Nat.zero_le _
 | cons x l ih =>
   show (xtB1 x ++ xtsB l).length ≤ 5 * (l.length + 1)
   have := xtB1_len x
   rw [List.length_append]
   omega
theorem xtsB_step {l : List Xt} {k : Nat} (h : k < l.length) : xtsB (l.take (k + 1)) = xtsB (l.take k) ++ xtB1 l[k] := by
 unfold xtsB
 rw [← take_step h, List.flatMap_append]
 simp
@[reducible] def exsK (l : List Xt) (k : Nat) : KL := [(3, vOwn 5001), (8, vL uEx l), (9, vI (l.length : Nat)), (10, vI (k : Nat))]
@[reducible] def exsK2 (l : List Xt) (k : Nat) : KL := [(3, vOwn 27), (8, vL uEx l), (9, vI (l.length : Nat)), (10, vI (k : Nat))]
set_option maxHeartbeats 1000000 in
theorem exts_fn (l : List Xt) (hl : l.length ≤ 100000) : Fn Tryz.prog 343 [vL uEx l] [] [] (vL .u8 (xtsB l)) [] := by
 refine Fn.frz (d := 1001) (nw := []) (Bo := []) (e := 5) (u := .u8) (xs := xtsB l) ?_ rfl rfl
 refine Fn.of tblOK [6] _ _ _ _ _ Tryz.func343 rfl rfl (by kernel_rfl) (by kernel_rfl) rfl (drawOK tblOK) rfl ?_
 show TrQ _ _ _ _ _ _ _
 refine TrQ.loop tblOK (drawOK tblOK) [6] (by kernel_rfl) (X := Nat) (fun k => exsK l k) (fun k => byR 5001 (xtsB (l.take k))) (fun k => k ≤ l.length) (fun k => l.length - k) 0 (Nat.zero_le _) ?_ ?_
 · exact Le.trans (Le.nil 3 5001 5 .u8 rfl rfl) (Le.sub ⟨rfl, rfl, rfl, rfl, trivial⟩ ⟨rfl, trivial⟩)
 intro k hk
 have hk : k ≤ l.length := hk
 refine ⟨fun h => ?_, fun h => ?_⟩
 · have hk1 : k < l.length := by
     have h : decide ((k : Int) < ((l.length : Nat) : Int)) = true := h
     have := of_decide_eq_true h
     omega
   have hget : lget l k = some l[k] := List.getElem?_eq_getElem hk1
   have hst := xtsB_step hk1
   have hb := xtsB_len (l.take k)
   have hb2 : (l.take k).length ≤ 100000 := by rw [List.length_take]; omega
   have hp1 := fun (hf : fdOK (xtF l[k]) = true) => eput_fn (xtF l[k]) (xtF_W _) (by simp) hf
   have hp0 := fun (hf : fdOK (xtF l[k]) = false) => eput_no (xtF l[k]) (xtF_W _) (by simp) hf
   have hx : xtB1 l[k] = if fdOK (xtF l[k]) = true then fdB (xtF l[k]) else [] := rfl
   have hxl := xtB1_len l[k]
   generalize l[k] = x at *
   have m0 : (0 : Int) ≤ ((k : Nat) : Int) := by omega
   have m1 : (-9223372036854775808 : Int) ≤ ((k : Nat) : Int) + 1 ∧ ((k : Nat) : Int) + 1 ≤ 9223372036854775807 := by omega
   refine (Bool.eq_false_or_eq_true (fdOK (xtF x))).elim (fun hf => ?_) (fun hf => ?_)
   · have hp := hp1 hf
     rw [if_pos hf] at hx
     rw [hx] at hst hxl
     generalize fdB (xtF x) = y at *
     generalize xtsB (l.take k) = z at *
     have m2 : z.length + y.length ≤ 4294967296 := by omega
     refine ⟨m0, x, hget, rfl, ?_⟩
     refine ⟨_, _, _, _, Fn.ren [(1001, 5002)] hp, trivial, rfl, ?_⟩
     show TrQ _ _ _ _ _ _ _
     refine TrQ.go tblOK (drawOK tblOK) [] (by kernel_rfl) (Le.refl _ _) ?_
     refine ⟨m2, rfl, ?_⟩
     exact ⟨m1, k + 1, hk1, by show l.length - (k + 1) < l.length - k; omega, Le.trans (Le.sub (K' := exsK2 l (k + 1)) (B' := byR 27 (xtsB (l.take (k + 1)))) ⟨rfl, rfl, rfl, rfl, trivial⟩ ⟨congrArg (fun z => some (Ch.row 5 .u8 z)) hst.symm, trivial⟩) (Le.trans (Le.ren 27 5001 rfl) (Le.sub ⟨rfl, rfl, rfl, rfl, trivial⟩ ⟨rfl, trivial⟩))⟩
   · have hp := hp0 hf
     rw [if_neg (by rw [hf]; decide)] at hx
     rw [hx, List.append_nil] at hst
     generalize xtsB (l.take k) = z at *
     have m2 : z.length + 0 ≤ 4294967296 := by omega
     refine ⟨m0, x, hget, rfl, ?_⟩
     refine ⟨_, _, _, _, hp, trivial, rfl, ?_⟩
     show TrQ _ _ _ _ _ _ _
     refine TrQ.le (Le.sub (K' := (6, vL .u8 []) :: exsK l k) (B' := byR 5001 z) ⟨rfl, rfl, rfl, rfl, rfl, trivial⟩ ⟨rfl, trivial⟩) ?_
     refine TrQ.go tblOK (drawOK tblOK) [] (by kernel_rfl) (Le.refl _ _) ?_
     refine ⟨m2, rfl, ?_⟩
     exact ⟨m1, k + 1, hk1, by show l.length - (k + 1) < l.length - k; omega, Le.trans (Le.sub (K' := exsK2 l (k + 1)) (B' := byR 27 (xtsB (l.take (k + 1)))) ⟨rfl, rfl, rfl, rfl, trivial⟩ ⟨congrArg (fun z => some (Ch.row 5 .u8 z)) ((List.append_nil z).trans hst.symm), trivial⟩) (Le.trans (Le.ren 27 5001 rfl) (Le.sub ⟨rfl, rfl, rfl, rfl, trivial⟩ ⟨rfl, trivial⟩))⟩
 · have hk1 : k = l.length := by
     have h : decide ((k : Int) < ((l.length : Nat) : Int)) = false := h
     have := of_decide_eq_false h
     omega
   subst hk1
   exact ⟨_, _, _, Le.ren 5001 1001 rfl, rfl, rfl, ⟨congrArg (fun z => some (Ch.row 5 .u8 (xtsB z))) (List.take_length ..), trivial⟩, rfl⟩
/-! ### part -/
def prC (l : List Xt) (a n : Int) : List UInt8 × Int := if exCut l a n = [] then ([], 1) else (xtsB (exCut l a n), 0)
theorem prC_err {l : List Xt} {a n : Int} (h : (prC l a n).2 ≠ 0) : (prC l a n).1 = [] := by
 unfold prC at h ⊢
 split
 · rfl
 · rename_i h1
   rw [if_neg h1] at h
   exact absurd rfl h
theorem part_fn (l : List Xt) (r : Rq) (hl : l.length ≤ 100000) (hin : ∀ x, x ∈ l → -4611686018427387904 ≤ x.2.1 ∧ x.2.1 ≤ 4611686018427387903) : Fn Tryz.prog 292 [vL uEx l, rqV r] [] [] (.tup [.one (.d (.lst .u8 (prC l (rqA r) (rqL r)).1)), vErr (prC l (rqA r) (rqL r)).2]) [] := by
 have hc := scut_fn l (rqA r) (rqL r) (by omega) hin
 have hlen := exCut_len l (rqA r) (rqL r)
 have hx := exts_fn (exCut l (rqA r) (rqL r)) (by omega)
 unfold prC
 generalize exCut l (rqA r) (rqL r) = c at *
 by_cases h0 : c = []
 · rw [if_pos h0]
   subst h0
   refine Fn.of tblOK [] _ _ _ _ _ Tryz.func292 rfl rfl (by kernel_rfl) (by kernel_rfl) rfl (drawOK tblOK) rfl ?_
   refine ⟨rfl, ?_⟩
   refine ⟨_, _, _, _, hc, trivial, rfl, ?_⟩
   refine ⟨fun _ => ?_, fun h => absurd h (by decide)⟩
   exact ⟨_, _, _, Le.refl _ _, rfl, ⟨rfl, rfl, trivial⟩, trivial, rfl⟩
 · rw [if_neg h0]
   refine Fn.of tblOK [] _ _ _ _ _ Tryz.func292 rfl rfl (by kernel_rfl) (by kernel_rfl) rfl (drawOK tblOK) rfl ?_
   refine ⟨rfl, ?_⟩
   refine ⟨_, _, _, _, hc, trivial, rfl, ?_⟩
   refine ⟨fun h => ?_, fun _ => ?_⟩
   · exfalso
     have h : ((c.length : Nat) : Int) = 0 := of_decide_eq_true h
     exact h0 (List.eq_nil_of_length_eq_zero (by omega))
   · refine ⟨_, _, _, _, hx, trivial, rfl, ?_⟩
     exact ⟨_, _, _, Le.refl _ _, rfl, ⟨rfl, rfl, trivial⟩, trivial, rfl⟩
/-! ### status -/
def stC (bits : Nat) (L : List Dsk) (nm : List UInt8) (r : Rq) : List UInt8 × Int := if (rwC bits L nm).2 = 0 then prC (rwC bits L nm).1 (rqA r) (rqL r) else ([], (rwC bits L nm).2)
theorem stC_err {bits : Nat} {L : List Dsk} {nm : List UInt8} {r : Rq} (h : (stC bits L nm r).2 ≠ 0) : (stC bits L nm r).1 = [] := by
 unfold stC at h ⊢
 split
 · rename_i h1
   rw [if_pos h1] at h
   exact prC_err h
 · rfl
theorem rwC_in {bits room : Nat} {L : List Dsk} (h : CS bits room L) (nm : List UInt8) : (rwC bits L nm).1.length ≤ 65536 ∧ (∀ x, x ∈ (rwC bits L nm).1 → -4611686018427387904 ≤ x.2.1 ∧ x.2.1 ≤ 4611686018427387903) ∧ ((rwC bits L nm).2 = 0 ∨ (rwC bits L nm).2 = 140) := by
 unfold rwC
 cases hd : dk L nm with
 | none => exact ⟨Nat.zero_le _, (fun x hx => by cases hx), .inr rfl⟩
 | some d =>
   obtain ⟨hO, hbt, _⟩ := h.ims d (dk_get hd).1
   have htl := hO.tl
   have := exOf_in (ks := awyL bits L nm d.im.t.length) (by rw [awyL_len]; omega)
   exact ⟨this.1, this.2, .inl rfl⟩
theorem sst_fn {bits room : Nat} {L : List Dsk} (h : CS bits room L) (o : Ob) (nm : List UInt8) (r : Rq) : Fn Tryz.prog 224 [svV nm, rqV r] (svB bits room L o) [] (.tup [.one (.d (.lst .u8 (stC bits L nm r).1)), vErr (stC bits L nm r).2]) (svB bits room L o) := by
 have hr := chrow_fn h nm
 obtain ⟨i1, i2, i3⟩ := rwC_in h nm
 have hp := part_fn (rwC bits L nm).1 r (by omega) i2
 unfold stC
 generalize rwC bits L nm = w at *
 obtain ⟨l, e⟩ := w
 simp only at hr i1 i2 hp ⊢
 by_cases he : e = 0
 · rw [if_pos he]
   subst he
   refine Fn.of tblOK [] _ _ _ _ _ Tryz.func224 rfl rfl (by kernel_rfl) (by kernel_rfl) rfl (drawOK tblOK) rfl ?_
   refine ⟨rfl, rfl, ?_⟩
   refine ⟨_, _, _, _, hr, ⟨rfl, rfl, rfl, rfl, trivial⟩, rfl, ?_⟩
   refine ⟨fun h => absurd h (by decide), fun _ => ?_⟩
   refine ⟨_, _, _, _, hp, trivial, rfl, ?_⟩
   exact ⟨_, _, _, Le.refl _ _, rfl, ⟨rfl, rfl, trivial⟩, ⟨rfl, rfl, rfl, rfl, rfl, trivial⟩, rfl⟩
 · rw [if_neg he]
   refine Fn.of tblOK [] _ _ _ _ _ Tryz.func224 rfl rfl (by kernel_rfl) (by kernel_rfl) rfl (drawOK tblOK) rfl ?_
   refine ⟨rfl, rfl, ?_⟩
   refine ⟨_, _, _, _, hr, ⟨rfl, rfl, rfl, rfl, trivial⟩, rfl, ?_⟩
   refine ⟨fun _ => ?_, fun h => absurd (show (!decide (e = 0)) = false from h) (by simp [he])⟩
   exact ⟨_, _, _, Le.refl _ _, rfl, ⟨rfl, rfl, trivial⟩, ⟨rfl, rfl, rfl, rfl, rfl, trivial⟩, rfl⟩
/-! ### dirty -/
@[reducible] def dirB5 (l : List DEn) : BL := [(1005, .cells [.mp 1006]), (1006, .map .str .adr (dE l)), (1007, .obj (.pool (dD l))), (1008, .obj (.pool (dM l)))]
def dirO (l : List DEn) : Ob := .grp 1005 (dirB5 l)
def dtC (l : List DEn) (r : Rq) : List UInt8 × Int := match (dNms l)[(rqC r).toNat]? with
 | none => ([], 112)
 | some nm => match ek l nm with
   | none => ([], 110)
   | some e => if e.us = true then prC (bzRow e.s e.g e.es) (rqA r) (rqL r) else ([], 110)
theorem dtC_err {l : List DEn} {r : Rq} (h : (dtC l r).2 ≠ 0) : (dtC l r).1 = [] := by
 unfold dtC at h ⊢
 split
 · rfl
 · rename_i nm hn
   rw [hn] at h
   simp only at h
   split
   · rfl
   · rename_i e he
     rw [he] at h
     simp only at h
     split
     · rename_i hu
       rw [if_pos hu] at h
       exact prC_err h
     · rfl
theorem dNms_mem {l : List DEn} {nm : List UInt8} (h : nm ∈ dNms l) : ∃ e, ek l nm = some e := by
 unfold dNms keysS at h
 have h := (List.mergeSort_perm (mkeys (dE l)) leB).mem_iff.1 h
 rw [mkeys_dE] at h
 cases he : ek l nm with
 | none => exact absurd h (ek_none he)
 | some e => exact ⟨e, rfl⟩
theorem bzRow_in {s g : Int} {es : List (El uI × El uI)} (hs : 0 ≤ s ∧ s ≤ 4096) : (bzRow s g es).length ≤ 4096 ∧ ∀ x, x ∈ bzRow s g es → -4611686018427387904 ≤ x.2.1 ∧ x.2.1 ≤ 4611686018427387903 := by
 have h := exOf_in (ks := bzKs g es s.toNat) (by rw [bzKs_len]; omega)
 have h2 := (exOf_ok (bzKs g es s.toNat)).len
 rw [bzKs_len] at h2
 exact ⟨by unfold bzRow; omega, h.2⟩
@[reducible] def sdB (bits room : Nat) (L : List Dsk) (l : List DEn) : BL := [(1001, .cells (chC bits room)), (1002, .map .str .adr (chE L)), (1003, .obj (.pool (chD L))), (1004, .obj (.pool (chM L))), (1005, .cells [.mp 1006]), (1006, .map .str .adr (dE l)), (1007, .obj (.pool (dD l))), (1008, .obj (.pool (dM l)))]
set_option maxHeartbeats 1000000 in
theorem sdt_op {bits room : Nat} {L : List Dsk} {l : List DEn} (h : DOK l) (nm : List UInt8) (r : Rq) (hr : 0 ≤ rqC r) : Fn Tryz.prog 225 [svV nm, rqV r] (sdB bits room L l) [] (.tup [.one (.d (.lst .u8 (dtC l r).1)), vErr (dtC l r).2]) (sdB bits room L l) := by
 have hN := Fn.ren [(1001, 1005), (1002, 1006), (1003, 1007), (1004, 1008)] (dnames_fn h)
 have hln : (dNms l).length ≤ 8 := by rw [dNms_len]; exact h.len
 by_cases hc : (dNms l).length ≤ (rqC r).toNat
 · have e0 : dtC l r = ([], 112) := by
     unfold dtC
     rw [List.getElem?_eq_none hc]
   rw [e0]
   generalize dNms l = ns at *
   refine Fn.of tblOK [] _ _ _ _ _ Tryz.func225 rfl rfl (by kernel_rfl) (by kernel_rfl) rfl (drawOK tblOK) rfl ?_
   refine ⟨rfl, rfl, ?_⟩
   refine ⟨_, _, _, _, hN, ⟨rfl, rfl, rfl, rfl, trivial⟩, rfl, ?_⟩
   refine ⟨fun _ => ?_, fun hh => ?_⟩
   · exact ⟨_, _, _, Le.refl _ _, rfl, ⟨rfl, rfl, trivial⟩, ⟨rfl, rfl, rfl, rfl, rfl, rfl, rfl, rfl, trivial⟩, rfl⟩
   · exfalso
     have hh : ¬ ((ns.length : Nat) : Int) ≤ rqC r := of_decide_eq_false hh
     omega
 · have hc2 : (rqC r).toNat < (dNms l).length := by omega
   obtain ⟨e, he⟩ := dNms_mem (List.getElem_mem hc2)
   have e0 : dtC l r = if e.us = true then prC (bzRow e.s e.g e.es) (rqA r) (rqL r) else ([], 110) := by
     unfold dtC
     rw [List.getElem?_eq_getElem hc2]
     simp only
     rw [he]
   have hg : lget (dNms l) (rqC r).toNat = some (dNms l)[(rqC r).toNat] := List.getElem?_eq_getElem hc2
   have hge := Fn.ren [(1001, 1005), (1002, 1006), (1003, 1007), (1004, 1008)] (dget_ok h he)
   obtain ⟨k1, k2, k3, k4⟩ := h.ok e (ek_get he).1
   have hrow := Fn.ren [(1001, 5001), (1002, 5002)] (bzrow_fn e.s e.g e.es k1 k2.1)
   have hi := bzRow_in (g := e.g) (es := e.es) k1
   have hp := part_fn (bzRow e.s e.g e.es) r (by omega) hi.2
   rw [e0]
   generalize (dNms l)[(rqC r).toNat] = n1 at *
   generalize dNms l = ns at *
   generalize bzRow e.s e.g e.es = rw_ at *
   generalize prC rw_ (rqA r) (rqL r) = pr at *
   refine Fn.of tblOK [5] _ _ _ _ _ Tryz.func225 rfl rfl (by kernel_rfl) (by kernel_rfl) rfl (drawOK tblOK) rfl ?_
   refine ⟨rfl, rfl, ?_⟩
   refine ⟨_, _, _, _, hN, ⟨rfl, rfl, rfl, rfl, trivial⟩, rfl, ?_⟩
   refine ⟨fun hh => ?_, fun _ => ?_⟩
   · exfalso
     have hh : ((ns.length : Nat) : Int) ≤ rqC r := of_decide_eq_true hh
     omega
   refine ⟨hr, n1, hg, ?_⟩
   refine ⟨_, _, _, _, hge, ⟨rfl, rfl, rfl, rfl, trivial⟩, rfl, ?_⟩
   refine ⟨rfl, ?_⟩
   refine ⟨indep_of (by kernel_rfl), ?_⟩
   show TrQ _ _ _ _ _ _ _
   refine TrQ.go tblOK (drawOK tblOK) [] (by kernel_rfl) (Le.refl _ _) ?_
   refine ⟨fun hu => ?_, fun hu => ?_⟩
   · have hu : e.us = false := by
       have hu : (!e.us) = true := hu
       simpa using hu
     rw [if_neg (by rw [hu]; decide)]
     exact ⟨_, _, _, Le.refl _ _, rfl, ⟨rfl, rfl, trivial⟩, ⟨rfl, rfl, rfl, rfl, rfl, rfl, rfl, rfl, trivial⟩, rfl⟩
   · have hu : e.us = true := by
       have hu : (!e.us) = false := hu
       simpa using hu
     rw [if_pos hu]
     refine ⟨_, _, _, _, hrow, ⟨rfl, rfl, trivial⟩, rfl, ?_⟩
     refine ⟨_, _, _, _, hp, trivial, rfl, ?_⟩
     refine ⟨indep_of (by kernel_rfl), ?_⟩
     exact ⟨_, _, _, Le.refl _ _, rfl, ⟨rfl, rfl, trivial⟩, ⟨rfl, rfl, rfl, rfl, rfl, rfl, rfl, rfl, trivial⟩, rfl⟩
theorem sd_perm (bits room : Nat) (L : List Dsk) (l : List DEn) (d : Nat) : lookB (dirB5 l ++ [(1001, .cells (chC bits room)), (1002, .map .str .adr (chE L)), (1003, .obj (.pool (chD L))), (1004, .obj (.pool (chM L)))]) d = lookB (sdB bits room L l) d := by
 by_cases e1 : 1001 = d
 · subst e1; rfl
 by_cases e2 : 1002 = d
 · subst e2; rfl
 by_cases e3 : 1003 = d
 · subst e3; rfl
 by_cases e4 : 1004 = d
 · subst e4; rfl
 by_cases e5 : 1005 = d
 · subst e5; rfl
 by_cases e6 : 1006 = d
 · subst e6; rfl
 by_cases e7 : 1007 = d
 · subst e7; rfl
 by_cases e8 : 1008 = d
 · subst e8; rfl
 simp [lookB_cons, e1, e2, e3, e4, e5, e6, e7, e8]
theorem sv_perm (bits room : Nat) (L : List Dsk) (o : Ob) (d : Nat) : lookB (svB bits room L o) d = lookB ((1005, .obj o) :: [(1001, .cells (chC bits room)), (1002, .map .str .adr (chE L)), (1003, .obj (.pool (chD L))), (1004, .obj (.pool (chM L)))]) d := by
 by_cases e1 : 1001 = d
 · subst e1; rfl
 by_cases e2 : 1002 = d
 · subst e2; rfl
 by_cases e3 : 1003 = d
 · subst e3; rfl
 by_cases e4 : 1004 = d
 · subst e4; rfl
 by_cases e5 : 1005 = d
 · subst e5; rfl
 simp [lookB_cons, e1, e2, e3, e4, e5]
theorem sdt_fn {bits room : Nat} {L : List Dsk} {l : List DEn} (h : DOK l) (nm : List UInt8) (r : Rq) (hr : 0 ≤ rqC r) : Fn Tryz.prog 225 [svV nm, rqV r] (svB bits room L (dirO l)) [] (.tup [.one (.d (.lst .u8 (dtC l r).1)), vErr (dtC l r).2]) (svB bits room L (dirO l)) := by
 have h1 := Fn.congrB (sdt_op (bits := bits) (room := room) (L := L) h nm r hr) (sd_perm bits room L l) (sd_perm bits room L l)
 have h2 := Fn.close (c := 1005) (o := dirO l) (o' := dirO l) (Bl := dirB5 l) (Bl' := dirB5 l) (nw' := []) [1006, 1007, 1008] h1 (fun _ _ _ _ h => h) (fun _ _ _ _ h => h) rfl rfl
 exact Fn.congrB h2 (sv_perm bits room L (dirO l)) (sv_perm bits room L (dirO l))
/-! ### answers -/
def anX (bits : Nat) (L : List Dsk) (nm : List UInt8) (l : List DEn) (r : Rq) : List UInt8 × Int := if rqK r = 1 then rdA bits L nm r else if rqK r = 2 then stC bits L nm r else dtC l r
def anB (bits : Nat) (L : List Dsk) (nm : List UInt8) (l : List DEn) (r : Rq) : List UInt8 := tellB (anX bits L nm l r).2 (rqH r) (anX bits L nm l r).1
theorem rdA_in {bits room : Nat} {L : List Dsk} (h : CS bits room L) (nm : List UInt8) (r : Rq) : (rdA bits L nm r).1.length ≤ 1024 ∧ 0 ≤ (rdA bits L nm r).2 ∧ (rdA bits L nm r).2 ≤ 1000 := by
 unfold rdA
 split
 · exact ⟨Nat.zero_le _, by decide, by decide⟩
 rename_i h64
 unfold rdC
 split
 · exact ⟨Nat.zero_le _, by decide, by decide⟩
 · rename_i d hd
   split
   · rename_i hi
     have := iIns_pos hi
     rw [crdK_len h.toChOK hd (h.dep nm).1]
     exact ⟨by omega, (by show (0 : Int) ≤ 0; decide), (by show (0 : Int) ≤ 1000; decide)⟩
   · rename_i hi
     refine ⟨Nat.zero_le _, ?_⟩
     unfold iIns
     split
     · decide
     · split <;> decide
theorem prC_in (l : List Xt) (a n : Int) (hl : l.length ≤ 4096) : (prC l a n).1.length ≤ 20480 ∧ 0 ≤ (prC l a n).2 ∧ (prC l a n).2 ≤ 1000 := by
 unfold prC
 split
 · exact ⟨Nat.zero_le _, by decide, by decide⟩
 · have h1 := exCut_len l a n
   have h2 := xtsB_len (exCut l a n)
   exact ⟨by show (xtsB (exCut l a n)).length ≤ 20480; omega, by show (0 : Int) ≤ 0; decide, by show (0 : Int) ≤ 1000; decide⟩
theorem rwC_len {bits room : Nat} {L : List Dsk} (h : CS bits room L) (nm : List UInt8) : (rwC bits L nm).1.length ≤ 256 := by
 unfold rwC
 cases hd : dk L nm with
 | none => exact Nat.zero_le _
 | some d =>
   obtain ⟨hO, hbt, _⟩ := h.ims d (dk_get hd).1
   have htl := hO.tl
   have := (exOf_ok (awyL bits L nm d.im.t.length)).len
   rw [awyL_len] at this
   exact Nat.le_trans this htl
theorem anX_in {bits room : Nat} {L : List Dsk} (h : CS bits room L) {l : List DEn} (hd : DOK l) (nm : List UInt8) (r : Rq) : (anX bits L nm l r).1.length ≤ 20480 ∧ 0 ≤ (anX bits L nm l r).2 ∧ (anX bits L nm l r).2 ≤ 1000 := by
 unfold anX
 split
 · have := rdA_in h nm r
   exact ⟨by omega, this.2⟩
 split
 · unfold stC
   obtain ⟨i1, i2, i3⟩ := rwC_in h nm
   have hl := rwC_len h nm
   split
   · exact prC_in _ _ _ (by omega)
   · rcases i3 with i3 | i3 <;> rw [i3] <;> exact ⟨Nat.zero_le _, by decide, by decide⟩
 · unfold dtC
   split
   · exact ⟨Nat.zero_le _, by decide, by decide⟩
   · split
     · exact ⟨Nat.zero_le _, by decide, by decide⟩
     · rename_i e he
       split
       · exact prC_in _ _ _ (bzRow_in (hd.ok e (ek_get he).1).1).1
       · exact ⟨Nat.zero_le _, by decide, by decide⟩
theorem anB_len {bits room : Nat} {L : List Dsk} (h : CS bits room L) {l : List DEn} (hd : DOK l) (nm : List UInt8) (r : Rq) : (anB bits L nm l r).length ≤ 30000 := by
 have := anX_in h hd nm r
 unfold anB tellB
 rw [List.length_append, List.length_append, List.length_append, encR_length, encR_length, encR_length, encT_length]
 omega
/-- What is asked, and is no End. -/
def AskC (r : Rq) : Prop := rqFit r = true ∧ kindOK (rqK r) = true ∧ rqK r ≠ 4
theorem AskC.of {s : List UInt8} (h : hearOK s = true) (h4 : rqK (hearR s) ≠ 4) : AskC (hearR s) := by
 refine ⟨hearR_fit s, ?_, h4⟩
 unfold hearOK at h
 simp only [Bool.and_eq_true] at h
 exact h.2.2
theorem ansAll_fn {bits room : Nat} {L : List Dsk} (h : CS bits room L) {l : List DEn} (hd : DOK l) (nm : List UInt8) (r : Rq) (hr : AskC r) : Fn Tryz.prog 141 [svV nm, rqV r] (svB bits room L (dirO l)) [] (vL .u8 (anB bits L nm l r)) (svB bits room L (dirO l)) := by
 obtain ⟨hf, hk, h4⟩ := hr
 obtain ⟨i1, i2, i3⟩ := anX_in h hd nm r
 have hk2 : rqK r = 1 ∨ rqK r = 2 ∨ rqK r = 3 := by
   unfold kindOK at hk
   simp only [Bool.and_eq_true, decide_eq_true_eq] at hk
   omega
 have hh : fit 2 (rqH r) = true := by
   unfold rqFit at hf
   simp only [Bool.and_eq_true] at hf
   exact hf.2.2.1
 have hc0 : 0 ≤ rqC r := by
   unfold rqFit at hf
   simp only [Bool.and_eq_true] at hf
   exact (fit_iff.1 hf.2.1).1
 have hT : tellOK (anX bits L nm l r).2 (rqH r) (anX bits L nm l r).1 = true := by
   unfold tellOK
   have e1 : fit 2 (anX bits L nm l r).2 = true := fit_iff.2 ⟨i2, by omega⟩
   have e2 : fit 4 (((anX bits L nm l r).1.length : Nat) : Int) = true := fit_iff.2 ⟨by omega, by rw [Int.toNat_natCast]; omega⟩
   rw [e1, hh, e2]
   rfl
 unfold anB
 rcases hk2 with hk2 | hk2 | hk2
 · have e : anX bits L nm l r = rdA bits L nm r := by unfold anX; rw [if_pos hk2]
   rw [e] at hT i1 ⊢
   obtain ⟨k, c, hn, a, n⟩ := r
   have hk2 : k = 1 := hk2
   subst hk2
   exact Fn.frz (answer_fn (k := 1) (.inl ⟨rfl, rfl⟩) (srd_fn h (dirO l) nm (1, c, hn, a, n)) rdA_err (by omega) hT) rfl rfl
 · have e : anX bits L nm l r = stC bits L nm r := by unfold anX; rw [if_neg (by omega), if_pos hk2]
   rw [e] at hT i1 ⊢
   obtain ⟨k, c, hn, a, n⟩ := r
   have hk2 : k = 2 := hk2
   subst hk2
   exact Fn.frz (answer_fn (k := 2) (.inr (.inl ⟨rfl, rfl⟩)) (sst_fn h (dirO l) nm (2, c, hn, a, n)) stC_err (by omega) hT) rfl rfl
 · have e : anX bits L nm l r = dtC l r := by unfold anX; rw [if_neg (by omega), if_neg (by omega)]
   rw [e] at hT i1 ⊢
   obtain ⟨k, c, hn, a, n⟩ := r
   have hk2 : k = 3 := hk2
   subst hk2
   exact Fn.frz (answer_fn (k := 3) (.inr (.inr ⟨rfl, rfl⟩)) (sdt_fn hd nm (3, c, hn, a, n) hc0) dtC_err (by omega) hT) rfl rfl
/-- Any bytes are served. -/
theorem serveAll_fn {bits room : Nat} {L : List Dsk} (h : CS bits room L) {l : List DEn} (hd : DOK l) (nm : List UInt8) (b : List UInt8) (hb : b.length ≤ 100000) :
   Fn Tryz.prog 37 [vP 1001, vS nm, vP 1005, vL .u8 b] (svB bits room L (dirO l)) [1009] (.tup [.one (.own 1009), .one (.d (.int .i64 ((srv (anB bits L nm l) b.length b).2.1 : Nat))), .one (.d (.int .i64 (srv (anB bits L nm l) b.length b).2.2))]) (svR bits room L (dirO l) (srv (anB bits L nm l) b.length b).1) :=
 serve_fn (C := AskC) (ans := anB bits L nm l) (fun r hr => ansAll_fn h hd nm r hr) (fun r _ => anB_len h hd nm r) b hb (fun k _ h1 h2 => AskC.of h1 h2)
end Go.Proofs.YtojaemgabaehdaaGreat
/-!
  Chains: scripts of calls: few, does.
-/
namespace Go.Proofs.YtojaemgabaehdaaGreat
set_option linter.unusedVariables false
set_option linter.unusedSimpArgs false
set_option maxRecDepth 10000
open Go.RowKit Go.Proofs
@[reducible] def uQ : U := .pr uI (.pr uI (.pr uI (.pr (.sl .u8) .str)))
@[reducible] def uC : U := .pr uI (.pr uI (.pr .str (.pr .str uQ)))
abbrev Cq := Int × Int × Int × List UInt8 × List UInt8
abbrev Cop := Int × Int × List UInt8 × List UInt8 × Cq
@[reducible] def cK (o : Cop) : Int := o.1
@[reducible] def cSz (o : Cop) : Int := o.2.1
@[reducible] def cNm (o : Cop) : List UInt8 := o.2.2.1
@[reducible] def cOt (o : Cop) : List UInt8 := o.2.2.2.1
@[reducible] def cQ (o : Cop) : Cq := o.2.2.2.2
@[reducible] def qK (q : Cq) : Int := q.1
@[reducible] def qA (q : Cq) : Int := q.2.1
@[reducible] def qL (q : Cq) : Int := q.2.2.1
@[reducible] def qB (q : Cq) : List UInt8 := q.2.2.2.1
@[reducible] def qN (q : Cq) : List UInt8 := q.2.2.2.2
@[reducible] def copL (o : Cop) : List S1 := [.d (.int .i64 (cK o)), .d (.int .i64 (cSz o)), .d (.str (cNm o)), .d (.str (cOt o)), .d (.int .i64 (qK (cQ o))), .d (.int .i64 (qA (cQ o))), .d (.int .i64 (qL (cQ o))), .d (.lst .u8 (qB (cQ o))), .d (.str (qN (cQ o)))]
@[reducible] def copV (o : Cop) : SV := .c (.agg (copL o))
/-! ### few -/
def cTot (o : Cop) : Nat := (qB (cQ o)).length + (cNm o).length + (cOt o).length
def cBad (o : Cop) : Bool := decide (12 < cSz o) && decide (cSz o ≤ 256)
def cTo (l : List Cop) (k : Nat) : Nat := ((l.take k).map cTot).sum
theorem csum_le : ∀ (l : List Nat) (k : Nat), (l.take k).sum ≤ l.sum
 | [], k => by simp
 | x :: l, 0 => by simp
 | x :: l, k + 1 => by
   have := csum_le l k
   simp
   omega
theorem cTo_le (l : List Cop) (k : Nat) : cTo l k ≤ (l.map cTot).sum := by
 unfold cTo
 rw [List.map_take]
 exact csum_le _ _
theorem cTo_succ (l : List Cop) {k : Nat} (h : k < l.length) : cTo l (k + 1) = cTo l k + cTot l[k] := by
 unfold cTo
 rw [List.take_add_one, List.getElem?_eq_getElem h, List.map_append, List.sum_append]
 rfl
theorem cTot_le {l : List Cop} {o : Cop} (h : o ∈ l) : cTot o ≤ (l.map cTot).sum := by
 induction l with
 | nil => cases h
 | cons x l ih =>
   rw [List.map_cons, List.sum_cons]
   rcases List.mem_cons.1 h with rfl | h
   · omega
   · have := ih h
     omega
/-- .. up to the k-th none is bad. -/
def cGood (l : List Cop) (k : Nat) : Prop := ∀ (i : Nat) (o : Cop), i < k → l[i]? = some o → cBad o = false
theorem cGood.succ {l : List Cop} {k : Nat} (h : cGood l k) (hk : k < l.length) (hb : cBad l[k] = false) : cGood l (k + 1) := fun i o hi ho => by
 by_cases e : i = k
 · subst e
   rw [List.getElem?_eq_getElem hk] at ho
   injection ho with ho
   rw [← ho]
   exact hb
 · exact h i o (by omega) ho
/-! ### does -/
/-! Chains: what the bulk of a script bounds. -/
theorem bulkc_u8 : ∀ s : List UInt8, bulkU (.sl .u8) s = 1 + s.length
 | [] => rfl
 | b :: s => by
   have ih := bulkc_u8 s
   have e2 : bulkU (.sl .u8) s = 1 + (List.map (bulkU .u8) s).sum := rfl
   show 1 + (1 + (List.map (bulkU .u8) s).sum) = 1 + (s.length + 1)
   omega
theorem bulkc_op (o : Cop) : bulkU uC o = 9 + cTot o + (qN (cQ o)).length := by
 have h1 := bulkc_u8 (qB (cQ o))
 have e : bulkU uC o = 1 + (1 + ((1 + (cNm o).length) + ((1 + (cOt o).length) + (1 + (1 + (1 + (bulkU (.sl .u8) (qB (cQ o)) + (1 + (qN (cQ o)).length)))))))) := rfl
 rw [e, h1]
 unfold cTot
 omega
theorem bulkc_ops : ∀ l : List Cop, 1 + l.length + (l.map cTot).sum ≤ bulkU (.sl uC) l
 | [] => Nat.le_refl _
 | o :: l => by
   have h1 := bulkc_ops l
   have e2 : bulkU (.sl uC) l = 1 + (List.map (bulkU uC) l).sum := rfl
   have e3 := bulkc_op o
   show 1 + (l.length + 1) + (cTot o + (l.map cTot).sum) ≤ 1 + (bulkU uC o + (List.map (bulkU uC) l).sum)
   omega
end Go.Proofs.YtojaemgabaehdaaGreat
/-!
  Scripts on chains whose calls tell an error alone: what they make of a chain; small disks.
-/
namespace Go.Proofs.YtojaemgabaehdaaGreat
set_option linter.unusedVariables false
set_option linter.unusedSimpArgs false
set_option maxRecDepth 10000
open Go.RowKit Go.Proofs
def doW (bits : Nat) (L : List Dsk) (nm : List UInt8) (q : Cq) : CR :=
 if qK q = 1 then wrC bits L nm (qA q) (qB q) else if qK q = 2 then zrC bits L nm (qA q) (qL q) else if qK q = 3 then dsC L nm (qA q) (qL q) else ⟨0, L⟩
def doD (bits room : Nat) (L : List Dsk) (o : Cop) (p : Nat × Nat) : CR :=
 if cK o = 0 then adC bits room L (cNm o) (cSz o) (cOt o) p else if cK o = 1 then rmC L (cNm o) else if cK o = 2 then rbC L (cNm o) (cOt o) else if cK o = 3 then doW bits L (cNm o) (cQ o) else ⟨0, L⟩
section
variable {bits room : Nat} {L : List Dsk}
theorem doW_cs (h : CS bits room L) (nm : List UInt8) (q : Cq) : CS bits room (doW bits L nm q).L := by
 unfold doW
 split
 · exact wrC_cs h _ _ _
 · split
   · exact zrC_cs h _ _ _
   · split
     · exact dsC_cs h _ _ _
     · exact h
theorem doD_cs (h : CS bits room L) {o : Cop} (hk : cK o ≠ 0) (p : Nat × Nat) : CS bits room (doD bits room L o p).L := by
 unfold doD
 rw [if_neg hk]
 split
 · exact rmC_cs h _
 · split
   · exact rbC_cs h _ _
   · split
     · exact doW_cs h _ _
     · exact h
/-- No disk has more than twelve clusters. -/
def Sml (L : List Dsk) : Prop := ∀ d, d ∈ L → d.im.t.length ≤ 12
theorem Sml.nil : Sml [] := fun d h => by cases h
end
/-! ### few, of two lists -/
end Go.Proofs.YtojaemgabaehdaaGreat
/-!
  Scripts of law 20 on chains and directories: few, does, maps.
-/
namespace Go.Proofs.YtojaemgabaehdaaGreat
set_option linter.unusedVariables false
set_option linter.unusedSimpArgs false
set_option maxRecDepth 10000
open Go.RowKit Go.Proofs
/-! ### calls on a directory -/
@[reducible] def uM : U := .pr uI (.pr .str (.pr .str (.pr uI (.pr uI (.pr uI (.pr uI .bool))))))
abbrev Mop := Int × List UInt8 × List UInt8 × Int × Int × Int × Int × Bool
@[reducible] def mK (o : Mop) : Int := o.1
@[reducible] def mNm (o : Mop) : List UInt8 := o.2.1
@[reducible] def mOt (o : Mop) : List UInt8 := o.2.2.1
@[reducible] def mSe (o : Mop) : Int := o.2.2.2.1
@[reducible] def mGr (o : Mop) : Int := o.2.2.2.2.1
@[reducible] def mFr (o : Mop) : Int := o.2.2.2.2.2.1
@[reducible] def mLg (o : Mop) : Int := o.2.2.2.2.2.2.1
@[reducible] def mOn (o : Mop) : Bool := o.2.2.2.2.2.2.2
@[reducible] def mopL (o : Mop) : List S1 := [.d (.int .i64 (mK o)), .d (.str (mNm o)), .d (.str (mOt o)), .d (.int .i64 (mSe o)), .d (.int .i64 (mGr o)), .d (.int .i64 (mFr o)), .d (.int .i64 (mLg o)), .d (.bool (mOn o))]
@[reducible] def mopV (o : Mop) : SV := .c (.agg (mopL o))
def mTot (o : Mop) : Nat := (mNm o).length + (mOt o).length
def mBad (o : Mop) : Bool := decide (60 < mSe o) && decide (mSe o ≤ 4096)
def mTo (l : List Mop) (k : Nat) : Nat := ((l.take k).map mTot).sum
theorem mTo_le (l : List Mop) (k : Nat) : mTo l k ≤ (l.map mTot).sum := by
 unfold mTo
 rw [List.map_take]
 exact csum_le _ _
theorem mTo_succ (l : List Mop) {k : Nat} (h : k < l.length) : mTo l (k + 1) = mTo l k + mTot l[k] := by
 unfold mTo
 rw [List.take_add_one, List.getElem?_eq_getElem h, List.map_append, List.sum_append]
 rfl
theorem mTot_le {l : List Mop} {o : Mop} (h : o ∈ l) : mTot o ≤ (l.map mTot).sum := by
 induction l with
 | nil => cases h
 | cons x l ih =>
   rw [List.map_cons, List.sum_cons]
   rcases List.mem_cons.1 h with rfl | h
   · omega
   · have := ih h
     omega
def mGood (l : List Mop) (k : Nat) : Prop := ∀ (i : Nat) (o : Mop), i < k → l[i]? = some o → mBad o = false
theorem mGood.succ {l : List Mop} {k : Nat} (h : mGood l k) (hk : k < l.length) (hb : mBad l[k] = false) : mGood l (k + 1) := fun i o hi ho => by
 by_cases e : i = k
 · subst e
   rw [List.getElem?_eq_getElem hk] at ho
   injection ho with ho
   rw [← ho]
   exact hb
 · exact h i o (by omega) ho
def fewM (l : List Cop) (m : List Mop) : Bool := (l.all fun o => !cBad o) && ((m.all fun o => !mBad o) && (decide (l.length + m.length ≤ 60) && decide ((l.map cTot).sum + (m.map mTot).sum ≤ 6000)))
theorem fewM_bad {l : List Cop} {m : List Mop} {k : Nat} (hk : k < l.length) (hb : cBad l[k] = true) : fewM l m = false := by
 unfold fewM
 rw [show (l.all fun o => !cBad o) = false from Bool.eq_false_iff.2 fun h => by
   have := List.all_eq_true.1 h _ (List.getElem_mem hk)
   rw [hb] at this
   cases this]
 rfl
theorem fewM_bad2 {l : List Cop} {m : List Mop} {k : Nat} (hk : k < m.length) (hb : mBad m[k] = true) : fewM l m = false := by
 unfold fewM
 rw [show (m.all fun o => !mBad o) = false from Bool.eq_false_iff.2 fun h => by
   have := List.all_eq_true.1 h _ (List.getElem_mem hk)
   rw [hb] at this
   cases this]
 rw [Bool.false_and, Bool.and_false]
theorem fewM_get {l : List Cop} {m : List Mop} (h : fewM l m = true) : l.length + m.length ≤ 60 ∧ (∀ o, o ∈ l → cTot o ≤ 6000 ∧ cBad o = false) ∧ ∀ o, o ∈ m → mTot o ≤ 6000 := by
 unfold fewM at h
 simp only [Bool.and_eq_true, decide_eq_true_eq] at h
 obtain ⟨h1, h2, h3, h4⟩ := h
 refine ⟨h3, fun o ho => ⟨?_, ?_⟩, fun o ho => ?_⟩
 · have := cTot_le ho; omega
 · have := List.all_eq_true.1 h1 o ho
   simpa using this
 · have := mTot_le ho; omega
@[reducible] def fmK (l : List Cop) (m : List Mop) (k : Nat) : KL := [(0, vL uC l), (1, vL uM m), (5, vI (cTo l k : Nat)), (10, vL uC l), (11, vI (l.length : Nat)), (12, vI (k : Nat))]
@[reducible] def fmK2 (l : List Cop) (m : List Mop) (k : Nat) : KL := [(0, vL uC l), (1, vL uM m), (5, vI ((cTo l l.length + mTo m k : Nat) : Int)), (39, vL uM m), (40, vI (m.length : Nat)), (41, vI (k : Nat))]
theorem few20_fn (l : List Cop) (m : List Mop) (hl : l.length ≤ 1073741824) (ht : (l.map cTot).sum ≤ 1073741824) (hl2 : m.length ≤ 1073741824) (ht2 : (m.map mTot).sum ≤ 1073741824) : Fn Tryz.prog 74 [vL uC l, vL uM m] [] [] (vB (fewM l m)) [] := by
 refine Fn.of tblOK [] _ _ _ _ _ Tryz.func74 rfl rfl (by kernel_rfl) (by kernel_rfl) rfl (drawOK tblOK) rfl ?_
 show TrQ _ _ _ _ _ _ _
 refine TrQ.loop tblOK (drawOK tblOK) [] (by kernel_rfl) (X := Nat) (fmK l m) (fun _ => []) (fun k => k ≤ l.length ∧ cGood l k) (fun k => l.length - k) 0 ⟨Nat.zero_le _, fun i o hi => by omega⟩ ?_ ?_
 · exact Le.sub ⟨rfl, rfl, rfl, rfl, rfl, rfl, trivial⟩ trivial
 rintro k ⟨hk, hg⟩
 have ht1 := cTo_le l k
 refine ⟨fun hc => ?_, fun hc => ?_⟩
 · have hc : decide ((k : Int) < ((l.length : Nat) : Int)) = true := hc
   have hk1 : k < l.length := by have := of_decide_eq_true hc; omega
   have ht3 := cTo_le l (k + 1)
   have hs := cTo_succ l hk1
   have hbd : cBad l[k] = (decide (12 < cSz l[k]) && decide (cSz l[k] ≤ 256)) := rfl
   have htt : cTot l[k] = (qB (cQ l[k])).length + (cNm l[k]).length + (cOt l[k]).length := rfl
   have hget := lgAt (n := k) hk1
   have hgs := fun hb => hg.succ hk1 hb
   have hbad := fun hb => fewM_bad (m := m) hk1 hb
   generalize hx : l[k] = o at *
   have m1 : (-9223372036854775808 : Int) ≤ (((qB (cQ o)).length : Nat) : Int) + (((cNm o).length : Nat) : Int) ∧ (((qB (cQ o)).length : Nat) : Int) + (((cNm o).length : Nat) : Int) ≤ 9223372036854775807 := by omega
   have m2 : (-9223372036854775808 : Int) ≤ (((qB (cQ o)).length : Nat) : Int) + (((cNm o).length : Nat) : Int) + (((cOt o).length : Nat) : Int) ∧ (((qB (cQ o)).length : Nat) : Int) + (((cNm o).length : Nat) : Int) + (((cOt o).length : Nat) : Int) ≤ 9223372036854775807 := by omega
   have m3 : (-9223372036854775808 : Int) ≤ ((cTo l k : Nat) : Int) + ((((qB (cQ o)).length : Nat) : Int) + (((cNm o).length : Nat) : Int) + (((cOt o).length : Nat) : Int)) ∧ ((cTo l k : Nat) : Int) + ((((qB (cQ o)).length : Nat) : Int) + (((cNm o).length : Nat) : Int) + (((cOt o).length : Nat) : Int)) ≤ 9223372036854775807 := by omega
   have e3 : ((cTo l k : Nat) : Int) + ((((qB (cQ o)).length : Nat) : Int) + (((cNm o).length : Nat) : Int) + (((cOt o).length : Nat) : Int)) = ((cTo l (k + 1) : Nat) : Int) := by omega
   refine ⟨by omega, o, hget, ?_⟩
   refine ⟨rfl, m1, m2, m3, ?_⟩
   refine ⟨fun cA => ?_, fun cA => ?_⟩
   · have cA : decide (12 < cSz o) = true := cA
     refine ⟨fun cB => ?_, fun cB => ?_⟩
     · have cB : decide (cSz o ≤ 256) = true := cB
       exact ⟨_, _, _, Le.refl _ _, rfl, (hbad (by rw [hbd, cA, cB]; rfl)).symm, trivial, rfl⟩
     · have cB : decide (cSz o ≤ 256) = false := cB
       exact ⟨by omega, k + 1, ⟨hk1, hgs (by rw [hbd, cA, cB]; rfl)⟩, by omega, Le.sub ⟨rfl, rfl, e3, rfl, rfl, rfl, trivial⟩ trivial⟩
   · have cA : decide (12 < cSz o) = false := cA
     exact ⟨by omega, k + 1, ⟨hk1, hgs (by rw [hbd, cA]; rfl)⟩, by omega, Le.sub ⟨rfl, rfl, e3, rfl, rfl, rfl, trivial⟩ trivial⟩
 · have hc : decide ((k : Int) < ((l.length : Nat) : Int)) = false := hc
   have hk2 : k = l.length := by have := of_decide_eq_false hc; omega
   subst hk2
   have hall : (l.all fun o => !cBad o) = true := List.all_eq_true.2 fun o ho => by
     obtain ⟨i, hi, rfl⟩ := List.getElem_of_mem ho
     rw [hg i _ hi (List.getElem?_eq_getElem hi)]
     rfl
   have htt : cTo l l.length = (l.map cTot).sum := by unfold cTo; rw [List.take_length]
   show TrQ _ _ _ _ _ _ _
   refine TrQ.loop tblOK (drawOK tblOK) [] (by kernel_rfl) (X := Nat) (fmK2 l m) (fun _ => []) (fun j => j ≤ m.length ∧ mGood m j) (fun j => m.length - j) 0 ⟨Nat.zero_le _, fun i o hi => by omega⟩ ?_ ?_
   · exact Le.sub ⟨rfl, rfl, rfl, rfl, rfl, rfl, trivial⟩ trivial
   rintro j ⟨hj, hgm⟩
   have hj : j ≤ m.length := hj
   have hgm : mGood m j := hgm
   have hj1 := mTo_le m j
   refine ⟨fun hc => ?_, fun hc => ?_⟩
   · have hc : decide ((j : Int) < ((m.length : Nat) : Int)) = true := hc
     have hjm : j < m.length := by have := of_decide_eq_true hc; omega
     have hj2 := mTo_le m (j + 1)
     have hs := mTo_succ m hjm
     have hj3 : mTot m[j] = (mNm m[j]).length + (mOt m[j]).length := rfl
     have hbd : mBad m[j] = (decide (60 < mSe m[j]) && decide (mSe m[j] ≤ 4096)) := rfl
     have hgs := fun hb => hgm.succ hjm hb
     have hbad := fun hb => fewM_bad2 (l := l) hjm hb
     have hget := lgAt (n := j) hjm
     generalize hx : m[j] = o at *
     have m1 : (-9223372036854775808 : Int) ≤ (((mNm o).length : Nat) : Int) + (((mOt o).length : Nat) : Int) ∧ (((mNm o).length : Nat) : Int) + (((mOt o).length : Nat) : Int) ≤ 9223372036854775807 := by omega
     have m3 : (-9223372036854775808 : Int) ≤ ((cTo l l.length + mTo m j : Nat) : Int) + ((((mNm o).length : Nat) : Int) + (((mOt o).length : Nat) : Int)) ∧ ((cTo l l.length + mTo m j : Nat) : Int) + ((((mNm o).length : Nat) : Int) + (((mOt o).length : Nat) : Int)) ≤ 9223372036854775807 := by omega
     have e3 : ((cTo l l.length + mTo m j : Nat) : Int) + ((((mNm o).length : Nat) : Int) + (((mOt o).length : Nat) : Int)) = ((cTo l l.length + mTo m (j + 1) : Nat) : Int) := by omega
     refine ⟨by omega, o, hget, ?_⟩
     refine ⟨rfl, m1, m3, ?_⟩
     refine ⟨fun cA => ?_, fun cA => ?_⟩
     · have cA : decide (60 < mSe o) = true := cA
       refine ⟨fun cB => ?_, fun cB => ?_⟩
       · have cB : decide (mSe o ≤ 4096) = true := cB
         exact ⟨_, _, _, Le.refl _ _, rfl, (hbad (by rw [hbd, cA, cB]; rfl)).symm, trivial, rfl⟩
       · have cB : decide (mSe o ≤ 4096) = false := cB
         exact ⟨by omega, j + 1, ⟨hjm, hgs (by rw [hbd, cA, cB]; rfl)⟩, by omega, Le.sub ⟨rfl, rfl, e3, rfl, rfl, rfl, trivial⟩ trivial⟩
     · have cA : decide (60 < mSe o) = false := cA
       exact ⟨by omega, j + 1, ⟨hjm, hgs (by rw [hbd, cA]; rfl)⟩, by omega, Le.sub ⟨rfl, rfl, e3, rfl, rfl, rfl, trivial⟩ trivial⟩
   · have hc : decide ((j : Int) < ((m.length : Nat) : Int)) = false := hc
     have hj2 : j = m.length := by have := of_decide_eq_false hc; omega
     subst hj2
     have hall2 : (m.all fun o => !mBad o) = true := List.all_eq_true.2 fun o ho => by
       obtain ⟨i, hi, rfl⟩ := List.getElem_of_mem ho
       rw [hgm i _ hi (List.getElem?_eq_getElem hi)]
       rfl
     have hjt : mTo m m.length = (m.map mTot).sum := by unfold mTo; rw [List.take_length]
     have m4 : (-9223372036854775808 : Int) ≤ ((l.length : Nat) : Int) + ((m.length : Nat) : Int) ∧ ((l.length : Nat) : Int) + ((m.length : Nat) : Int) ≤ 9223372036854775807 := by omega
     refine ⟨m4, ?_⟩
     refine ⟨fun c1 => ?_, fun c1 => ?_⟩
     · have c1 : decide (((l.length : Nat) : Int) + ((m.length : Nat) : Int) ≤ 60) = true := c1
       have c1 : decide (l.length + m.length ≤ 60) = true := decide_eq_true (by have := of_decide_eq_true c1; omega)
       refine ⟨_, _, _, Le.refl _ _, rfl, (show decide (((cTo l l.length + mTo m m.length : Nat) : Int) ≤ 6000) = fewM l m from ?_), trivial, rfl⟩
       rw [fewM, hall, hall2, c1, htt, hjt, Bool.eq_iff_iff]
       simp
       omega
     · have c1 : decide (((l.length : Nat) : Int) + ((m.length : Nat) : Int) ≤ 60) = false := c1
       have c1 : decide (l.length + m.length ≤ 60) = false := decide_eq_false (by have := of_decide_eq_false c1; omega)
       refine ⟨_, _, _, Le.refl _ _, rfl, (show false = fewM l m from ?_), trivial, rfl⟩
       rw [fewM, hall, hall2, c1]
       rfl
theorem does20_fn {bits room : Nat} {L : List Dsk} (h : CS bits room L) (o : Cop) (hb : cTot o ≤ 1000000) :
   FnX Tryz.prog 76 [vP 1001, copV o] (chB bits room L) [] (X := { p : Nat × Nat // CS bits room (doD bits room L o p).L }) (fun p => vI (doD bits room L o p.1).e) (fun p => chB bits room (doD bits room L o p.1).L) := by
 have htt : cTot o = (qB (cQ o)).length + (cNm o).length + (cOt o).length := rfl
 have hnm : (cNm o).length ≤ 4294967296 := by omega
 refine FnX.of tblOK [3] _ _ _ _ _ Tryz.func76 rfl rfl (by kernel_rfl) (by kernel_rfl) rfl (drawOK tblOK) rfl ?_
 refine ⟨rfl, ?_⟩
 refine ⟨fun c0 => ?_, fun c0 => ?_⟩
 · have c0 : cK o = 0 := of_decide_eq_true c0
   have hE : ∀ p, doD bits room L o p = adC bits room L (cNm o) (cSz o) (cOt o) p := fun p => if_pos c0
   show TrQ _ _ _ _ _ _ _
   refine TrQ.regionX tblOK (by kernel_rfl) ?_
   refine ⟨_, _, _, fun g => _, fun g => _, chadd_fn h (cNm o) (cSz o) (cOt o) hnm, ⟨rfl, rfl, rfl, rfl, trivial⟩, rfl, fun _ => rfl, fun g => ?_⟩
   have hL := congrArg CR.L (hE g.1)
   exact ⟨⟨g.1, by rw [hE]; exact g.2⟩, _, _, _, Le.refl _ _, rfl, congrArg CR.e (hE g.1).symm, ⟨rfl, congrArg (fun l => some (Ch.map .str .adr (chE l))) hL.symm, congrArg (fun l => some (Ch.obj (.pool (chD l)))) hL.symm, congrArg (fun l => some (Ch.obj (.pool (chM l)))) hL.symm, trivial⟩, rfl⟩
 have c0 : cK o ≠ 0 := of_decide_eq_false c0
 have g0 : CS bits room (doD bits room L o (0, 0)).L := doD_cs h c0 (0, 0)
 refine ⟨fun c1 => ?_, fun c1 => ?_⟩
 · have c1 : cK o = 1 := of_decide_eq_true c1
   have hE : doD bits room L o (0, 0) = rmC L (cNm o) := (if_neg c0).trans (if_pos c1)
   have hL := congrArg CR.L hE
   refine ⟨_, _, _, _, chremove_fn h (cNm o), ⟨rfl, rfl, rfl, rfl, trivial⟩, rfl, ?_⟩
   exact ⟨⟨_, g0⟩, _, _, _, Le.refl _ _, rfl, congrArg CR.e hE.symm, ⟨rfl, congrArg (fun l => some (Ch.map .str .adr (chE l))) hL.symm, congrArg (fun l => some (Ch.obj (.pool (chD l)))) hL.symm, congrArg (fun l => some (Ch.obj (.pool (chM l)))) hL.symm, trivial⟩, rfl⟩
 have c1 : cK o ≠ 1 := of_decide_eq_false c1
 refine ⟨fun c2 => ?_, fun c2 => ?_⟩
 · have c2 : cK o = 2 := of_decide_eq_true c2
   have hE : doD bits room L o (0, 0) = rbC L (cNm o) (cOt o) := (if_neg c0).trans ((if_neg c1).trans (if_pos c2))
   have hL := congrArg CR.L hE
   refine ⟨_, _, _, _, chrebase_fn h (cNm o) (cOt o), ⟨rfl, rfl, rfl, rfl, trivial⟩, rfl, ?_⟩
   exact ⟨⟨_, g0⟩, _, _, _, Le.refl _ _, rfl, congrArg CR.e hE.symm, ⟨rfl, congrArg (fun l => some (Ch.map .str .adr (chE l))) hL.symm, congrArg (fun l => some (Ch.obj (.pool (chD l)))) hL.symm, congrArg (fun l => some (Ch.obj (.pool (chM l)))) hL.symm, trivial⟩, rfl⟩
 have c2 : cK o ≠ 2 := of_decide_eq_false c2
 refine ⟨fun c3 => ?_, fun c3 => ?_⟩
 · have c3 : cK o = 3 := of_decide_eq_true c3
   have hQ : doD bits room L o (0, 0) = doW bits L (cNm o) (cQ o) := (if_neg c0).trans ((if_neg c1).trans ((if_neg c2).trans (if_pos c3)))
   refine ⟨fun d1 => ?_, fun d1 => ?_⟩
   · have d1 : qK (cQ o) = 1 := of_decide_eq_true d1
     have hE := hQ.trans (if_pos d1)
     have hL := congrArg CR.L hE
     refine ⟨_, _, _, _, chwrite_fn h (cNm o) (qA (cQ o)) (qB (cQ o)) (by omega), ⟨rfl, rfl, rfl, rfl, trivial⟩, rfl, ?_⟩
     exact ⟨⟨_, g0⟩, _, _, _, Le.refl _ _, rfl, congrArg CR.e hE.symm, ⟨rfl, congrArg (fun l => some (Ch.map .str .adr (chE l))) hL.symm, congrArg (fun l => some (Ch.obj (.pool (chD l)))) hL.symm, congrArg (fun l => some (Ch.obj (.pool (chM l)))) hL.symm, trivial⟩, rfl⟩
   have d1 : qK (cQ o) ≠ 1 := of_decide_eq_false d1
   refine ⟨fun d2 => ?_, fun d2 => ?_⟩
   · have d2 : qK (cQ o) = 2 := of_decide_eq_true d2
     have hE := hQ.trans ((if_neg d1).trans (if_pos d2))
     have hL := congrArg CR.L hE
     refine ⟨_, _, _, _, chzero_fn h (cNm o) (qA (cQ o)) (qL (cQ o)), ⟨rfl, rfl, rfl, rfl, trivial⟩, rfl, ?_⟩
     exact ⟨⟨_, g0⟩, _, _, _, Le.refl _ _, rfl, congrArg CR.e hE.symm, ⟨rfl, congrArg (fun l => some (Ch.map .str .adr (chE l))) hL.symm, congrArg (fun l => some (Ch.obj (.pool (chD l)))) hL.symm, congrArg (fun l => some (Ch.obj (.pool (chM l)))) hL.symm, trivial⟩, rfl⟩
   have d2 : qK (cQ o) ≠ 2 := of_decide_eq_false d2
   refine ⟨fun d3 => ?_, fun d3 => ?_⟩
   · have d3 : qK (cQ o) = 3 := of_decide_eq_true d3
     have hE := hQ.trans ((if_neg d1).trans ((if_neg d2).trans (if_pos d3)))
     have hL := congrArg CR.L hE
     refine ⟨_, _, _, _, chdisc_fn h (cNm o) (qA (cQ o)) (qL (cQ o)), ⟨rfl, rfl, rfl, rfl, trivial⟩, rfl, ?_⟩
     exact ⟨⟨_, g0⟩, _, _, _, Le.refl _ _, rfl, congrArg CR.e hE.symm, ⟨rfl, congrArg (fun l => some (Ch.map .str .adr (chE l))) hL.symm, congrArg (fun l => some (Ch.obj (.pool (chD l)))) hL.symm, congrArg (fun l => some (Ch.obj (.pool (chM l)))) hL.symm, trivial⟩, rfl⟩
   have d3 : qK (cQ o) ≠ 3 := of_decide_eq_false d3
   have hE := hQ.trans ((if_neg d1).trans ((if_neg d2).trans (if_neg d3)))
   have hL := congrArg CR.L hE
   exact ⟨⟨_, g0⟩, _, _, _, Le.refl _ _, rfl, congrArg CR.e hE.symm, ⟨rfl, congrArg (fun l => some (Ch.map .str .adr (chE l))) hL.symm, congrArg (fun l => some (Ch.obj (.pool (chD l)))) hL.symm, congrArg (fun l => some (Ch.obj (.pool (chM l)))) hL.symm, trivial⟩, rfl⟩
 have c3 : cK o ≠ 3 := of_decide_eq_false c3
 have hE : doD bits room L o (0, 0) = ⟨0, L⟩ := (if_neg c0).trans ((if_neg c1).trans ((if_neg c2).trans (if_neg c3)))
 have hL := congrArg CR.L hE
 exact ⟨⟨_, g0⟩, _, _, _, Le.refl _ _, rfl, congrArg CR.e hE.symm, ⟨rfl, congrArg (fun l => some (Ch.map .str .adr (chE l))) hL.symm, congrArg (fun l => some (Ch.obj (.pool (chD l)))) hL.symm, congrArg (fun l => some (Ch.obj (.pool (chM l)))) hL.symm, trivial⟩, rfl⟩
theorem bulk_mop (o : Mop) : mTot o + 8 ≤ bulkU uM o := by
 show (mNm o).length + (mOt o).length + 8 ≤ 1 + ((1 + (mNm o).length) + ((1 + (mOt o).length) + (1 + (1 + (1 + (1 + 1))))))
 omega
theorem bulk_mops : ∀ l : List Mop, 1 + l.length + (l.map mTot).sum ≤ bulkU (.sl uM) l
 | [] => Nat.le_refl _
 | o :: l => by
   have h1 := bulk_mops l
   have e2 : bulkU (.sl uM) l = 1 + (List.map (bulkU uM) l).sum := rfl
   have e3 := bulk_mop o
   show 1 + (l.length + 1) + (mTot o + (l.map mTot).sum) ≤ 1 + (bulkU uM o + (List.map (bulkU uM) l).sum)
   omega
/-! ### maps -/
theorem bzSet_in {s g : Int} (h : bzOK s g = true) (fr lg : Int) : (0 ≤ s ∧ s ≤ 4096) ∧ (1 ≤ g ∧ g ≤ 64) ∧ KNd (bzSet s g [] fr lg) := by
 obtain ⟨h1, h2, h3⟩ := bzOK_get h
 exact ⟨h1, ⟨h2, h3⟩, bzSet_nd List.Pairwise.nil fr lg⟩
set_option maxHeartbeats 2000000 in
theorem maps20_fn {l : List DEn} (h : DOK l) (o : Mop) (hb : mTot o ≤ 1000000) :
   FnX Tryz.prog 83 [vP 1001, mopV o] (dirB l) [] (X := { l' : List DEn // DOK l' }) (fun _ => vU) (fun l' => dirB l'.1) := by
 have htt : mTot o = (mNm o).length + (mOt o).length := rfl
 have hnm : (mNm o).length ≤ 4294967296 := by omega
 refine FnX.of tblOK [6] _ _ _ _ _ Tryz.func83 rfl rfl (by kernel_rfl) (by kernel_rfl) rfl (drawOK tblOK) rfl ?_
 refine ⟨rfl, ?_⟩
 refine ⟨fun c0 => ?_, fun c0 => ?_⟩
 · refine (Bool.eq_false_or_eq_true (bzOK (mSe o) (mGr o))).elim (fun hz => ?_) (fun hz => ?_)
   · obtain ⟨k1, k2, k3⟩ := bzSet_in hz (mFr o) (mLg o)
     have hset := Fn.ren [(1001, 2001), (1002, 2002)] (bzset_fn (mSe o) (mGr o) [] (mFr o) (mLg o) k1 k2)
     have e0 : ∀ n z, bzS 2001 2002 (mSe o) (mGr o) (bzSet (mSe o) (mGr o) [] (mFr o) (mLg o)) = bzS 2001 2002 n z (bzSet (mSe o) (mGr o) [] (mFr o) (mLg o)) → True := fun _ _ _ => trivial
     refine ⟨_, _, _, _, bznew_ok (mSe o) (mGr o) hz, trivial, rfl, ?_⟩
     refine ⟨fun _ => ?_, fun h => absurd h (by decide)⟩
     refine ⟨_, _, _, _, hset, ⟨rfl, rfl, trivial⟩, rfl, ?_⟩
     show TrQ _ _ _ _ _ _ _
     refine TrQ.le (Le.sub (K' := [(0, vP 1001), (3, vP 3), (4, vP 2001)]) (B' := [(1001, .cells [.mp 1002]), (1002, .map .str .adr (dE l)), (1003, .obj (.pool (dD l))), (1004, .obj (.pool (dM l))), (2001, .cells [.d (.int .i64 (mSe o)), .d (.int .i64 (mGr o)), .mp 2002]), (2002, .map uI uI (bzSet (mSe o) (mGr o) [] (mFr o) (mLg o))), (3, .cells (mopL o))]) ⟨rfl, rfl, rfl, trivial⟩ ⟨rfl, rfl, rfl, rfl, rfl, rfl, rfl, trivial⟩) ?_
     generalize bzSet (mSe o) (mGr o) [] (mFr o) (mLg o) = es at *
     refine (Bool.eq_false_or_eq_true (nameOK (mNm o))).elim (fun hn => ?_) (fun hn => ?_)
     · by_cases hth : (ek l (mNm o)).isSome = true ∨ 8 ≤ l.length
       · refine TrQ.go tblOK (drawOK tblOK) [] (by kernel_rfl) (Le.refl _ _) ?_
         refine ⟨_, _, _, _, dadd_there (mNm o) hnm hn hth (mSe o) (mGr o) es, ⟨rfl, rfl, rfl, rfl, rfl, rfl, trivial⟩, rfl, ?_⟩
         exact ⟨⟨l, h⟩, _, _, _, Le.refl _ _, rfl, trivial, ⟨rfl, rfl, rfl, rfl, trivial⟩, rfl⟩
       · have h0 : ek l (mNm o) = none := by
           cases he : ek l (mNm o) with
           | none => rfl
           | some e => exact absurd (.inl (by rw [he]; rfl)) hth
         have h8 : l.length < 8 := by
           rcases Nat.lt_or_ge l.length 8 with h8 | h8
           · exact h8
           · exact absurd (.inr h8) hth
         refine TrQ.regionX tblOK (by kernel_rfl) ?_
         refine ⟨_, _, _, fun g => _, fun g => _, dadd_ok h (mNm o) hnm hn h0 h8 (mSe o) (mGr o) es ⟨k1, k2, k3⟩, ⟨rfl, rfl, rfl, rfl, rfl, rfl, trivial⟩, rfl, fun _ => rfl, fun g => ?_⟩
         exact ⟨⟨_, g.2⟩, _, _, _, Le.refl _ _, rfl, trivial, ⟨rfl, rfl, rfl, rfl, trivial⟩, rfl⟩
     · refine TrQ.go tblOK (drawOK tblOK) [] (by kernel_rfl) (Le.refl _ _) ?_
       refine ⟨_, _, _, _, dadd_arg (mNm o) hnm hn (mSe o) (mGr o) es, ⟨rfl, rfl, rfl, rfl, rfl, rfl, trivial⟩, rfl, ?_⟩
       exact ⟨⟨l, h⟩, _, _, _, Le.refl _ _, rfl, trivial, ⟨rfl, rfl, rfl, rfl, trivial⟩, rfl⟩
   · refine ⟨_, _, _, _, bznew_no (mSe o) (mGr o) hz, trivial, rfl, ?_⟩
     refine ⟨fun h => absurd h (by decide), fun _ => ?_⟩
     exact ⟨⟨l, h⟩, _, _, _, Le.refl _ _, rfl, trivial, ⟨rfl, rfl, rfl, rfl, trivial⟩, rfl⟩
 refine ⟨fun c1 => ?_, fun c1 => ?_⟩
 · refine ⟨_, _, _, _, dremove_fn h (mNm o), ⟨rfl, rfl, rfl, rfl, trivial⟩, rfl, ?_⟩
   exact ⟨⟨_, h.del (mNm o)⟩, _, _, _, Le.refl _ _, rfl, trivial, ⟨rfl, rfl, rfl, rfl, trivial⟩, rfl⟩
 refine ⟨fun c2 => ?_, fun c2 => ?_⟩
 · refine ⟨_, _, _, _, dswitch_fn h (mNm o) (mOn o), ⟨rfl, rfl, rfl, rfl, trivial⟩, rfl, ?_⟩
   exact ⟨⟨_, h.nmU (fun x => { x with on := mOn o }) (mNm o) (fun _ => ⟨rfl, rfl, rfl⟩) fun e k => k⟩, _, _, _, Le.refl _ _, rfl, trivial, ⟨rfl, rfl, rfl, rfl, trivial⟩, rfl⟩
 refine ⟨fun c3 => ?_, fun c3 => ?_⟩
 · refine ⟨_, _, _, _, dclear_fn h (mNm o), ⟨rfl, rfl, rfl, rfl, trivial⟩, rfl, ?_⟩
   exact ⟨⟨_, h.nmU clrE (mNm o) (fun _ => ⟨rfl, rfl, rfl⟩) fun e k => ⟨k.1, k.2.1, bzDel_nd k.2.2 _ _⟩⟩, _, _, _, Le.refl _ _, rfl, trivial, ⟨rfl, rfl, rfl, rfl, trivial⟩, rfl⟩
 refine ⟨fun c4 => ?_, fun c4 => ?_⟩
 · refine ⟨_, _, _, _, dmerge_fn h (mNm o) (mOt o), ⟨rfl, rfl, rfl, rfl, trivial⟩, rfl, ?_⟩
   exact ⟨⟨_, h.mg (mNm o) (mOt o)⟩, _, _, _, Le.refl _ _, rfl, trivial, ⟨rfl, rfl, rfl, rfl, trivial⟩, rfl⟩
 refine ⟨fun c5 => ?_, fun c5 => ?_⟩
 · refine ⟨_, _, _, _, dwrite_fn h (mFr o) (mLg o), ⟨rfl, rfl, rfl, rfl, trivial⟩, rfl, ?_⟩
   exact ⟨⟨_, (wrE_ok (mFr o) (mLg o)).map h⟩, _, _, _, Le.refl _ _, rfl, trivial, ⟨rfl, rfl, rfl, rfl, trivial⟩, rfl⟩
 refine ⟨fun c6 => ?_, fun c6 => ?_⟩
 · by_cases hs : 0 ≤ mSe o ∧ mSe o ≤ 4096
   · refine ⟨_, _, _, _, dresize_ok h (mSe o) hs, ⟨rfl, rfl, rfl, rfl, trivial⟩, rfl, ?_⟩
     exact ⟨⟨_, (rsE_ok (mSe o) hs).map h⟩, _, _, _, Le.refl _ _, rfl, trivial, ⟨rfl, rfl, rfl, rfl, trivial⟩, rfl⟩
   · have e0 : l.map (rsE (mSe o)) = l := (List.map_congr_left fun e _ => if_neg hs).trans (List.map_id' l)
     have hr := dresize_no (l := l) (mSe o) hs
     rw [e0] at hr
     refine ⟨_, _, _, _, hr, ⟨rfl, rfl, rfl, rfl, trivial⟩, rfl, ?_⟩
     exact ⟨⟨l, h⟩, _, _, _, Le.refl _ _, rfl, trivial, ⟨rfl, rfl, rfl, rfl, trivial⟩, rfl⟩
 · exact ⟨⟨l, h⟩, _, _, _, Le.refl _ _, rfl, trivial, ⟨rfl, rfl, rfl, rfl, trivial⟩, rfl⟩
end Go.Proofs.YtojaemgabaehdaaGreat
/-!
  ExportOnce: bytes that are served in two parts tell the same replies.
-/
namespace Go.Proofs.YtojaemgabaehdaaGreat
set_option linter.unusedVariables false
set_option linter.unusedSimpArgs false
set_option maxRecDepth 10000
open Go.RowKit Go.Proofs
/-! ### what is served, request by request -/
def blk (b : List UInt8) (k : Nat) : List UInt8 := (b.drop (16 * k)).take 16
theorem blk_drop (b : List UInt8) (j k : Nat) : blk (b.drop (16 * j)) k = blk b (j + k) := by
 unfold blk
 rw [List.drop_drop]
 congr 2
 omega
/-- The k-th request is one, and no End. -/
def Rqs (b : List UInt8) (k : Nat) : Prop := hearOK (blk b k) = true ∧ rqK (hearR (blk b k)) ≠ 4
def ansK (ans : Rq → List UInt8) (b : List UInt8) : Nat → List UInt8
 | 0 => []
 | j + 1 => ansK ans b j ++ ans (hearR (blk b j))
theorem ansK_add (ans : Rq → List UInt8) (b : List UInt8) (i : Nat) : ∀ j, ansK ans b (i + j) = ansK ans b i ++ ansK ans (b.drop (16 * i)) j
 | 0 => (List.append_nil _).symm
 | j + 1 => by
   show ansK ans b (i + j) ++ ans (hearR (blk b (i + j))) = ansK ans b i ++ (ansK ans (b.drop (16 * i)) j ++ ans (hearR (blk (b.drop (16 * i)) j)))
   rw [ansK_add ans b i j, blk_drop, List.append_assoc]
/-- The first j requests are answered; then the rest is served. -/
theorem srv_go (ans : Rq → List UInt8) : ∀ (j n : Nat) (b : List UInt8), 16 * j ≤ b.length → (∀ k, k < j → Rqs b k) → srv ans (j + n) b = (ansK ans b j ++ (srv ans n (b.drop (16 * j))).1, (srv ans n (b.drop (16 * j))).2)
 | 0, n, b, _, _ => by
   rw [Nat.zero_add]
   rfl
 | j + 1, n, b, hl, hR => by
   have h0 := hR 0 (by omega)
   have e0 : b.take 16 = blk b 0 := rfl
   rw [show j + 1 + n = (j + n) + 1 by omega]
   conv => lhs; unfold srv
   rw [if_neg (by omega), e0, if_neg (by rw [h0.1]; decide), if_neg h0.2]
   have ih := srv_go ans j n (b.drop 16) (by rw [List.length_drop]; omega) fun k hk => by
     have := hR (1 + k) (by omega)
     unfold Rqs at this ⊢
     rw [show b.drop 16 = b.drop (16 * 1) from rfl, blk_drop]
     exact this
   rw [ih, List.drop_drop, show 16 + 16 * j = 16 * (j + 1) by omega]
   have e1 : ansK ans b (j + 1) = ans (hearR (blk b 0)) ++ ansK ans (b.drop 16) j := by
     rw [show j + 1 = 1 + j by omega, ansK_add]
     rfl
   simp only [e1, List.append_assoc]
theorem srv_end (ans : Rq → List UInt8) (n : Nat) {b : List UInt8} (h : b.length < 16) : srv ans n b = ([], b.length, 0) := by
 cases n with
 | zero => rfl
 | succ n => unfold srv; rw [if_pos h]
theorem srv_all (ans : Rq → List UInt8) {b : List UInt8} (hR : ∀ k, 16 * k + 16 ≤ b.length → Rqs b k) : srv ans b.length b = (ansK ans b (b.length / 16), b.length % 16, 0) := by
 obtain ⟨n, hn⟩ : ∃ n, b.length = b.length / 16 + n := ⟨b.length - b.length / 16, by omega⟩
 have := srv_go ans (b.length / 16) n b (by omega) fun k hk => hR k (by omega)
 rw [← hn] at this
 have hd : (b.drop (16 * (b.length / 16))).length = b.length % 16 := by rw [List.length_drop]; omega
 rw [this, srv_end ans n (by omega), List.append_nil, hd]
/-! ### the law -/
@[reducible] def xsL (l : List Cop) (m : List Mop) : List S1 := [.d (.lst uC l), .d (.lst uM m)]
@[reducible] def ncB (l : List Cop) (m : List Mop) (L : List Dsk) (d : List DEn) : BL := chB 1 40 L ++ (dirB5 d ++ [(3, .cells (xsL l m))])
end Go.Proofs.YtojaemgabaehdaaGreat
/-!
  ExportEnds: behind an End nothing is answered; what is behind it is left.
-/
namespace Go.Proofs.YtojaemgabaehdaaGreat
set_option linter.unusedVariables false
set_option linter.unusedSimpArgs false
set_option maxRecDepth 10000
open Go.RowKit Go.Proofs
theorem first_no (p : Nat → Prop) : ∀ M, (∀ k, k < M → p k) ∨ ∃ j, j < M ∧ ¬ p j ∧ ∀ k, k < j → p k
 | 0 => .inl fun k hk => by omega
 | M + 1 => by
   rcases first_no p M with h | ⟨j, h1, h2, h3⟩
   · by_cases hp : p M
     · refine .inl fun k hk => ?_
       by_cases e : k = M
       · rw [e]; exact hp
       · exact h k (by omega)
     · exact .inr ⟨M, Nat.lt_succ_self M, hp, h⟩
   · exact .inr ⟨j, by omega, h2, h3⟩
@[reducible] def endQ : Rq := (4, 0, 0, 0, 0)
def endB : List UInt8 := askB endQ
theorem endB_len : endB.length = 16 := by kernel_rfl
theorem endB_ok : hearOK endB = true ∧ rqK (hearR endB) = 4 := by
 have h := hear_ask (r := endQ) rfl rfl
 refine ⟨h.1, ?_⟩
 show rqK (hearR (askB endQ)) = 4
 rw [h.2]
theorem srv_stop (ans : Rq → List UInt8) (n : Nat) {b : List UInt8} (h16 : 16 ≤ b.length) (h1 : hearOK (blk b 0) = true) (h2 : rqK (hearR (blk b 0)) = 4) : srv ans (n + 1) b = ([], b.length - 16, 0) := by
 have e0 : b.take 16 = blk b 0 := rfl
 unfold srv
 rw [if_neg (by omega), e0, if_neg (by rw [h1]; decide), if_pos h2]
theorem srv_bad (ans : Rq → List UInt8) (n : Nat) {b : List UInt8} (h16 : 16 ≤ b.length) (h1 : hearOK (blk b 0) = false) : srv ans (n + 1) b = ([], b.length, 200) := by
 have e0 : b.take 16 = blk b 0 := rfl
 unfold srv
 rw [if_neg (by omega), e0, if_pos h1]
theorem blk_app {b c : List UInt8} {k : Nat} (h : 16 * k + 16 ≤ b.length) : blk (b ++ c) k = blk b k := by
 unfold blk
 rw [List.drop_append_of_le_length (by omega), List.take_append_of_le_length (by rw [List.length_drop]; omega)]
theorem ansK_app (ans : Rq → List UInt8) {b c : List UInt8} : ∀ j, 16 * j ≤ b.length → ansK ans (b ++ c) j = ansK ans b j
 | 0, _ => rfl
 | j + 1, h => by
   show ansK ans (b ++ c) j ++ ans (hearR (blk (b ++ c) j)) = ansK ans b j ++ ans (hearR (blk b j))
   rw [ansK_app ans j (by omega), blk_app (by omega)]
theorem kind_at {s : List UInt8} (h : hearOK s = true) (h4 : rqK (hearR s) = 4) : lget s 4 = some (4 : UInt8) := by
 have h0 : (q6 s).1.2 = 0 := by
   unfold hearOK at h
   simp only [Bool.and_eq_true, decide_eq_true_eq] at h
   have h1 := h.1
   unfold endE at h1
   split at h1
   · rename_i e; exact absurd h1 (by simp)
   · exact h1
 have hb := hear_back h0
 have hq : (q2 s).2 = 4 := by
   have : ((q2 s).2 : Int) = 4 := h4
   omega
 rw [hq] at hb
 rw [hb]
 show (encR (q1 s).2 4 ++ _)[4]? = _
 rw [List.getElem?_append_right (by rw [encR_length]; exact Nat.le_refl 4), encR_length]
 rfl
theorem blk_at {b : List UInt8} {k i : Nat} (hi : i < 16) : lget (blk b k) i = lget b (16 * k + i) := by
 unfold blk lget
 rw [List.getElem?_take_of_lt hi, List.getElem?_drop]
/-- What is told of bytes, and of them with an End and more behind them. -/
theorem srv_ends (ans : Rq → List UInt8) (b more : List UInt8) (h16 : b.length % 16 = 0) :
   (∃ A lf f, srv ans b.length b = (A, lf, f) ∧ (f ≠ 0 ∨ lf ≠ 0)) ∨
   (∃ A rest j, srv ans b.length b = (A, 0, 0) ∧ srv ans (b ++ endB ++ more).length (b ++ endB ++ more) = (A, rest, 0) ∧ (A = ansK ans b j ∧ 16 * j ≤ b.length) ∧ (rest = more.length ∨ (16 ≤ b.length ∧ lget b (b.length - 12) = some (4 : UInt8) ∧ rest = more.length + 16))) := by
 have hlen : (b ++ endB ++ more).length = b.length + 16 + more.length := by rw [List.length_append, List.length_append, endB_len]
 have hC : b ++ endB ++ more = b ++ (endB ++ more) := List.append_assoc ..
 rcases first_no (Rqs b) (b.length / 16) with hall | ⟨j, hj, hn, hpre⟩
 · have e1 := srv_all ans (b := b) fun k hk => hall k (by omega)
   rw [h16] at e1
   have hd : (b ++ endB ++ more).drop (16 * (b.length / 16)) = endB ++ more := by
     rw [hC, show 16 * (b.length / 16) = b.length by omega, List.drop_left]
   have hb0 : blk (endB ++ more) 0 = endB := by
     rw [blk_app (by rw [endB_len]; exact Nat.le_refl 16)]
     show endB.take 16 = endB
     exact List.take_of_length_le (by rw [endB_len]; exact Nat.le_refl 16)
   obtain ⟨n, hn⟩ : ∃ n, (b ++ endB ++ more).length = b.length / 16 + (n + 1) := ⟨(b ++ endB ++ more).length - b.length / 16 - 1, by omega⟩
   have hg := srv_go ans (b.length / 16) (n + 1) (b ++ endB ++ more) (by omega) fun k hk => by
     have := hall k hk
     unfold Rqs at this ⊢
     rw [hC, blk_app (by omega)]
     exact this
   rw [← hn, hd, srv_stop ans n (by rw [List.length_append, endB_len]; omega) (by rw [hb0]; exact endB_ok.1) (by rw [hb0]; exact endB_ok.2), List.append_nil] at hg
   rw [hC, ansK_app ans _ (by omega), ← hC] at hg
   refine .inr ⟨_, more.length, b.length / 16, e1, hg.trans ?_, ⟨rfl, by omega⟩, .inl rfl⟩
   rw [List.length_append, endB_len]
   simp
 · obtain ⟨n, hn1⟩ : ∃ n, b.length = j + (n + 1) := ⟨b.length - j - 1, by omega⟩
   have hg := srv_go ans j (n + 1) b (by omega) hpre
   have hdl : (b.drop (16 * j)).length = b.length - 16 * j := List.length_drop
   have hb0 : blk (b.drop (16 * j)) 0 = blk b j := by rw [blk_drop]; rfl
   by_cases hok : hearOK (blk b j) = true
   · have h4 : rqK (hearR (blk b j)) = 4 := Classical.byContradiction fun h => hn ⟨hok, h⟩
     rw [← hn1, srv_stop ans n (by omega) (by rw [hb0]; exact hok) (by rw [hb0]; exact h4), List.append_nil] at hg
     by_cases hl : (b.drop (16 * j)).length - 16 = 0
     · rw [hl] at hg
       have hj2 : 16 * j + 16 = b.length := by omega
       have hd2 : ((b ++ endB ++ more).drop (16 * j)).length = b.length + 16 + more.length - 16 * j := by rw [List.length_drop, hlen]
       obtain ⟨n2, hn2⟩ : ∃ n, (b ++ endB ++ more).length = j + (n + 1) := ⟨(b ++ endB ++ more).length - j - 1, by rw [hlen]; omega⟩
       have hb2 : blk ((b ++ endB ++ more).drop (16 * j)) 0 = blk b j := by
         rw [blk_drop, hC, blk_app (by omega)]
         rfl
       have hg2 := srv_go ans j (n2 + 1) (b ++ endB ++ more) (by rw [hlen]; omega) fun k hk => by
         have := hpre k hk
         unfold Rqs at this ⊢
         rw [hC, blk_app (by omega)]
         exact this
       rw [← hn2, srv_stop ans n2 (by rw [hd2]; omega) (by rw [hb2]; exact hok) (by rw [hb2]; exact h4), List.append_nil] at hg2
       rw [hC, ansK_app ans _ (by omega), ← hC] at hg2
       refine .inr ⟨_, more.length + 16, j, hg, hg2.trans ?_, ⟨rfl, by omega⟩, .inr ⟨by omega, ?_, rfl⟩⟩
       · rw [show ((b ++ endB ++ more).drop (16 * j)).length - 16 = more.length + 16 by rw [hd2]; omega]
       · have := kind_at hok h4
         rw [blk_at (by omega)] at this
         rw [show b.length - 12 = 16 * j + 4 by omega]
         exact this
     · exact .inl ⟨_, _, _, hg, .inr hl⟩
   · have hok : hearOK (blk b j) = false := by simpa using hok
     rw [← hn1, srv_bad ans n (by omega) (by rw [hb0]; exact hok)] at hg
     exact .inl ⟨_, _, _, hg, .inl (by decide)⟩
/-! ### the law -/
@[reducible] def ndK1 (l : List Cop) (b c : List UInt8) (k : Nat) : KL := [(1, vL .u8 b), (2, vL .u8 c), (3, vP 3), (7, vP 1001), (9, vP 1005), (74, vL uC l), (75, vI (l.length : Nat)), (76, vI (k : Nat))]
@[reducible] def ndK2 (m : List Mop) (b c : List UInt8) (k : Nat) : KL := [(1, vL .u8 b), (2, vL .u8 c), (7, vP 1001), (9, vP 1005), (85, vL uM m), (86, vI (m.length : Nat)), (87, vI (k : Nat))]
@[reducible] def ndK4 (b c : List UInt8) : KL := [(1, vL .u8 b), (2, vL .u8 c), (7, vP 1001), (9, vP 1005)]
@[reducible] def ndK5 (b c A : List UInt8) (lf f : Int) : KL := [(1, vL .u8 b), (2, vL .u8 c), (7, vP 1001), (9, vP 1005), (14, vL .u8 A), (15, vI lf), (16, vI f)]
@[reducible] def ndK6 (b c A : List UInt8) : KL := [(1, vL .u8 b), (2, vL .u8 c), (7, vP 1001), (9, vP 1005), (14, vL .u8 A), (17, vL .u8 endB)]
@[reducible] def ndK7 (b c A : List UInt8) (rest : Nat) : KL := [(1, vL .u8 b), (2, vL .u8 c), (14, vL .u8 A), (19, vL .u8 A), (20, vI (rest : Nat)), (21, vI 0)]
@[reducible] def ndK8 (b c A : List UInt8) (rest : Nat) (st : Bool) : KL := [(2, vL .u8 c), (14, vL .u8 A), (19, vL .u8 A), (20, vI (rest : Nat)), (21, vI 0), (22, vB st)]
theorem u8eq4 (y : UInt8) (h : y = 4) : decide (((y.toNat : Nat) : Int) = 4) = true := by subst h; decide
set_option maxHeartbeats 4000000 in
theorem exportEnds_fn (l : List Cop) (m : List Mop) (b c : List UInt8) (hl : l.length ≤ 1073741824) (ht : (l.map cTot).sum ≤ 1073741824) (hl2 : m.length ≤ 1073741824) (ht2 : (m.map mTot).sum ≤ 1073741824) (hbc : b.length + c.length ≤ 1073741824) :
   Fn Tryz.prog 10 [.c (.agg (xsL l m)), vL .u8 b, vL .u8 c] [] [] (vB true) [] := by
 have hdn := Fn.ren [(1001, 1005), (1002, 1006), (1003, 1007), (1004, 1008)] dnew_fn
 have m1 : (-9223372036854775808 : Int) ≤ ((b.length : Nat) : Int) + ((c.length : Nat) : Int) ∧ ((b.length : Nat) : Int) + ((c.length : Nat) : Int) ≤ 9223372036854775807 := by omega
 have m2 : (0 : Int) ≤ ((b.length : Nat) : Int) ∧ (0 : Int) < 16 := by omega
 have m3 : (-9223372036854775808 : Int) ≤ ((b.length : Nat) : Int) % 16 ∧ ((b.length : Nat) : Int) % 16 ≤ 9223372036854775807 := by omega
 refine Fn.of tblOK [8,13,15,16,18,19,20,21] _ _ _ _ _ Tryz.func10 rfl rfl (by kernel_rfl) (by kernel_rfl) rfl (drawOK tblOK) rfl ?_
 refine ⟨rfl, ?_⟩
 refine ⟨_, _, _, _, chnew_ok 1 40 (by decide) (by decide), trivial, rfl, ?_⟩
 refine ⟨_, _, _, _, hdn, trivial, rfl, ?_⟩
 refine ⟨fun h => absurd h (by decide), fun _ => ?_⟩
 refine ⟨_, _, _, _, few20_fn l m hl ht hl2 ht2, trivial, rfl, ?_⟩
 refine ⟨fun _ => ?_, fun hf => ?_⟩
 · refine ⟨fun _ => ?_, fun h => absurd h (by decide)⟩
   refine ⟨_, _, _, _, alive20_fn, trivial, rfl, ?_⟩
   exact ⟨_, _, _, Le.refl _ _, rfl, rfl, trivial, rfl⟩
 refine ⟨m1, ?_⟩
 refine ⟨fun _ => ?_, fun h600 => ?_⟩
 · refine ⟨fun _ => ?_, fun h => absurd h (by decide)⟩
   refine ⟨_, _, _, _, alive20_fn, trivial, rfl, ?_⟩
   exact ⟨_, _, _, Le.refl _ _, rfl, rfl, trivial, rfl⟩
 refine ⟨m2, m3, ?_⟩
 refine ⟨fun _ => ?_, fun h16 => ?_⟩
 · refine ⟨fun _ => ?_, fun h => absurd h (by decide)⟩
   refine ⟨_, _, _, _, alive20_fn, trivial, rfl, ?_⟩
   exact ⟨_, _, _, Le.refl _ _, rfl, rfl, trivial, rfl⟩
 have h600 : ¬ (600 : Int) < ((b.length : Nat) : Int) + ((c.length : Nat) : Int) := of_decide_eq_false h600
 have h16 : b.length % 16 = 0 := by
   have h16 : (!decide (((b.length : Nat) : Int) % 16 = 0)) = false := h16
   have h16 : ((b.length : Nat) : Int) % 16 = 0 := by simpa using h16
   omega
 have hfew : fewM l m = true := by
   have hf : (!fewM l m) = false := hf
   simpa using hf
 obtain ⟨hll, hob, hom⟩ := fewM_get hfew
 show TrQ _ _ _ _ _ _ _
 refine TrQ.loop tblOK (drawOK tblOK) [8,13,15,16,18,19,20,21] (by kernel_rfl) (X := Nat × List Dsk) (fun x => ndK1 l b c x.1) (fun x => ncB l m x.2 []) (fun x => x.1 ≤ l.length ∧ CS 1 40 x.2) (fun x => l.length - x.1) (0, []) ⟨Nat.zero_le _, CS.nil (by decide) (by decide)⟩ ?_ ?_
 · exact Le.sub ⟨rfl, rfl, rfl, rfl, rfl, rfl, rfl, rfl, trivial⟩ ⟨rfl, rfl, rfl, rfl, rfl, rfl, rfl, rfl, rfl, trivial⟩
 rintro ⟨k, L⟩ ⟨hk, hC⟩
 have hk : k ≤ l.length := hk
 have hC : CS 1 40 L := hC
 refine ⟨fun hc => ?_, fun _ => ?_⟩
 · have hc : decide ((k : Int) < ((l.length : Nat) : Int)) = true := hc
   have hk1 : k < l.length := by have := of_decide_eq_true hc; omega
   have hO := (hob _ (List.getElem_mem hk1)).1
   refine ⟨by omega, l[k], lgAt (n := k) hk1, ?_⟩
   refine ⟨rfl, ?_⟩
   show TrQ _ _ _ _ _ _ _
   refine TrQ.regionX tblOK (by kernel_rfl) ?_
   refine ⟨_, _, _, fun g => _, fun g => _, does20_fn hC l[k] (by omega), ⟨rfl, rfl, rfl, rfl, trivial⟩, rfl, fun _ => rfl, fun g => ?_⟩
   exact ⟨by omega, (k + 1, (doD 1 40 L l[k] g.1).L), ⟨hk1, g.2⟩, by show l.length - (k + 1) < l.length - k; omega, Le.sub ⟨rfl, rfl, rfl, rfl, rfl, rfl, rfl, rfl, trivial⟩ ⟨rfl, rfl, rfl, rfl, rfl, rfl, rfl, rfl, rfl, trivial⟩⟩
 show TrQ _ _ _ _ _ _ _
 refine TrQ.loop tblOK (drawOK tblOK) [13,15,16,18,19,20,21] (by kernel_rfl) (X := Nat × List DEn) (fun x => ndK2 m b c x.1) (fun x => ncB l m L x.2) (fun x => x.1 ≤ m.length ∧ DOK x.2) (fun x => m.length - x.1) (0, []) ⟨Nat.zero_le _, DOK.nil⟩ ?_ ?_
 · exact Le.sub ⟨rfl, rfl, rfl, rfl, rfl, rfl, rfl, trivial⟩ ⟨rfl, rfl, rfl, rfl, rfl, rfl, rfl, rfl, rfl, trivial⟩
 rintro ⟨k2, d⟩ ⟨hk2, hD⟩
 have hk2 : k2 ≤ m.length := hk2
 have hD : DOK d := hD
 refine ⟨fun hc => ?_, fun _ => ?_⟩
 · have hc : decide ((k2 : Int) < ((m.length : Nat) : Int)) = true := hc
   have hk1 : k2 < m.length := by have := of_decide_eq_true hc; omega
   have hO := hom _ (List.getElem_mem hk1)
   have hmp := FnX.ren [(1001, 1005), (1002, 1006), (1003, 1007), (1004, 1008)] (maps20_fn hD m[k2] (by omega))
   refine ⟨by omega, m[k2], lgAt (n := k2) hk1, ?_⟩
   refine ⟨rfl, ?_⟩
   show TrQ _ _ _ _ _ _ _
   refine TrQ.regionX tblOK (by kernel_rfl) ?_
   refine ⟨_, _, _, fun g => _, fun g => _, hmp, ⟨rfl, rfl, rfl, rfl, trivial⟩, rfl, fun _ => rfl, fun g => ?_⟩
   exact ⟨by omega, (k2 + 1, g.1), ⟨hk1, g.2⟩, by show m.length - (k2 + 1) < m.length - k2; omega, Le.sub ⟨rfl, rfl, rfl, rfl, rfl, rfl, rfl, trivial⟩ ⟨rfl, rfl, rfl, rfl, rfl, rfl, rfl, rfl, rfl, trivial⟩⟩
 have s1 := serveAll_fn hC hD [97] b (by omega)
 have hak := ask_ok endQ rfl rfl
 have hak : Fn Tryz.prog 36 [rqV endQ] [] [1001] (.tup [.one (.own 1001), .one (.d (.int .i64 0))]) (byR 1001 endB) := hak
 have hel := endB_len
 have hlen : (b ++ endB ++ c).length = b.length + 16 + c.length := by rw [List.length_append, List.length_append, endB_len]
 have s2 := serveAll_fn hC hD [97] (b ++ endB ++ c) (by omega)
 rcases srv_ends (anB 1 L [97] d) b c h16 with ⟨A, lf, f, e1, hbad⟩ | ⟨A, rest, j, e1, e2, hA, hrest⟩
 · rw [e1] at s1
   simp only at s1
   show TrQ _ _ _ _ _ _ _
   refine TrQ.go tblOK (drawOK tblOK) [16,18,19,20,21] (by kernel_rfl) (Le.trans (Le.close 1005 (dirB5 d) ⟨rfl, rfl, rfl, rfl, trivial⟩ rfl fun _ _ _ _ h => h) (Le.sub (K' := ndK4 b c) (B' := svB 1 40 L (dirO d)) ⟨rfl, rfl, rfl, rfl, trivial⟩ ⟨rfl, rfl, rfl, rfl, rfl, trivial⟩)) ?_
   refine ⟨_, _, _, _, s1, ⟨rfl, rfl, rfl, rfl, rfl, trivial⟩, rfl, ?_⟩
   show TrQ _ _ _ _ _ _ _
   refine TrQ.go tblOK (drawOK tblOK) [18,19,20,21] (by kernel_rfl) (Le.trans (Le.frz 1009 rfl) (Le.sub (K' := ndK5 b c A ((lf : Nat) : Int) f) (B' := []) ⟨rfl, rfl, rfl, rfl, rfl, rfl, rfl, trivial⟩ trivial)) ?_
   refine ⟨fun _ => ?_, fun hf0 => ?_⟩
   · refine ⟨_, _, _, _, alive20_fn, trivial, rfl, ?_⟩
     exact ⟨_, _, _, Le.refl _ _, rfl, rfl, trivial, rfl⟩
   · have hf0 : (!decide (f = 0)) = false := hf0
     have hf0 : f = 0 := by simpa using hf0
     have hlf : lf ≠ 0 := hbad.resolve_left (fun h => h hf0)
     refine ⟨fun _ => ?_, fun hl0 => ?_⟩
     · refine ⟨_, _, _, _, alive20_fn, trivial, rfl, ?_⟩
       exact ⟨_, _, _, Le.refl _ _, rfl, rfl, trivial, rfl⟩
     · exfalso
       have hl0 : (!decide (((lf : Nat) : Int) = 0)) = false := hl0
       have hl0 : ((lf : Nat) : Int) = 0 := by simpa using hl0
       omega
 · rw [e1] at s1
   rw [e2] at s2
   simp only at s1 s2
   have n1 : (0 + b.length : Nat) ≤ 4294967296 := by omega
   show TrQ _ _ _ _ _ _ _
   refine TrQ.go tblOK (drawOK tblOK) [16,18,19,20,21] (by kernel_rfl) (Le.trans (Le.close 1005 (dirB5 d) ⟨rfl, rfl, rfl, rfl, trivial⟩ rfl fun _ _ _ _ h => h) (Le.sub (K' := ndK4 b c) (B' := svB 1 40 L (dirO d)) ⟨rfl, rfl, rfl, rfl, trivial⟩ ⟨rfl, rfl, rfl, rfl, rfl, trivial⟩)) ?_
   refine ⟨_, _, _, _, s1, ⟨rfl, rfl, rfl, rfl, rfl, trivial⟩, rfl, ?_⟩
   show TrQ _ _ _ _ _ _ _
   refine TrQ.go tblOK (drawOK tblOK) [18,19,20,21] (by kernel_rfl) (Le.trans (Le.frz 1009 rfl) (Le.sub (K' := ndK5 b c A ((0 : Nat) : Int) 0) (B' := svB 1 40 L (dirO d)) ⟨rfl, rfl, rfl, rfl, rfl, rfl, rfl, trivial⟩ ⟨rfl, rfl, rfl, rfl, rfl, trivial⟩)) ?_
   refine ⟨fun h => absurd h (by decide), fun _ => ?_⟩
   refine ⟨fun h => absurd h (by decide), fun _ => ?_⟩
   show TrQ _ _ _ _ _ _ _
   refine TrQ.go tblOK (drawOK tblOK) [19,20,21] (by kernel_rfl) (Le.refl _ _) ?_
   refine ⟨_, _, _, _, Fn.arg (Fn.ren [(1001, 5001)] hak) ⟨⟨rfl, rfl, rfl, rfl, rfl, trivial⟩, trivial⟩, trivial, rfl, ?_⟩
   show TrQ _ _ _ _ _ _ _
   refine TrQ.go tblOK (drawOK tblOK) [20,21] (by kernel_rfl) (Le.trans (Le.frz 5001 rfl) (Le.sub (K' := ndK6 b c A) (B' := svB 1 40 L (dirO d)) ⟨rfl, rfl, rfl, rfl, rfl, rfl, trivial⟩ ⟨rfl, rfl, rfl, rfl, rfl, trivial⟩)) ?_
   refine ⟨rfl, ?_⟩
   refine ⟨n1, rfl, ?_⟩
   refine ⟨(by show b.length + endB.length ≤ 4294967296; omega), rfl, ?_⟩
   refine ⟨(by show (b ++ endB).length + c.length ≤ 4294967296; rw [List.length_append]; omega), rfl, ?_⟩
   refine ⟨_, _, _, _, Fn.own (d := 124) (e := 5) (u := .u8) (xs := b ++ endB ++ c) (args := [vP 1001, vS [97], vP 1005, vOwn 124]) s2 rfl, ⟨rfl, rfl, rfl, rfl, rfl, rfl, trivial⟩, rfl, ?_⟩
   show TrQ _ _ _ _ _ _ _
   refine TrQ.go tblOK (drawOK tblOK) [21] (by kernel_rfl) (Le.trans (Le.frz 1009 rfl) (Le.sub (K' := ndK7 b c A rest) (B' := []) ⟨rfl, rfl, rfl, rfl, rfl, rfl, trivial⟩ trivial)) ?_
   refine ⟨fun h => ?_, fun h => ?_⟩
   · have h : 16 ≤ b.length := by
       have h : (16 : Int) ≤ ((b.length : Nat) : Int) := of_decide_eq_true h
       omega
     have hix : (((b.length : Nat) : Int) - 16 + 4).toNat = b.length - 12 := by omega
     have hg : lget b (((b.length : Nat) : Int) - 16 + 4).toNat = some b[b.length - 12] := by
       rw [hix]
       exact List.getElem?_eq_getElem (by omega)
     have hst : rest = c.length ∨ (decide ((((b[b.length - 12]).toNat : Nat) : Int) = 4) = true ∧ rest = c.length + 16) := by
       rcases hrest with h1 | ⟨_, h2, h3⟩
       · exact .inl h1
       · refine .inr ⟨u8eq4 _ ?_, h3⟩
         have h2 : b[b.length - 12]? = some 4 := h2
         rw [List.getElem?_eq_getElem (by omega)] at h2
         injection h2
     generalize b[b.length - 12] = y at *
     have n1 : (-9223372036854775808 : Int) ≤ ((b.length : Nat) : Int) - 16 ∧ ((b.length : Nat) : Int) - 16 ≤ 9223372036854775807 := by omega
     have n2 : (-9223372036854775808 : Int) ≤ ((b.length : Nat) : Int) - 16 + 4 ∧ ((b.length : Nat) : Int) - 16 + 4 ≤ 9223372036854775807 := by omega
     have n3 : (0 : Int) ≤ ((b.length : Nat) : Int) - 16 + 4 := by omega
     refine ⟨n1, n2, n3, y, hg, ?_⟩
     show TrQ _ _ _ _ _ _ _
     refine TrQ.go tblOK (drawOK tblOK) [] (by kernel_rfl) (Le.sub (K' := ndK8 b c A rest (decide (((y.toNat : Nat) : Int) = 4))) (B' := []) ⟨rfl, rfl, rfl, rfl, rfl, rfl, trivial⟩ trivial) ?_
     generalize decide (((y.toNat : Nat) : Int) = 4) = st at *
     refine ⟨_, _, _, _, alive20_fn, trivial, rfl, ?_⟩
     refine ⟨fun _ => ?_, fun h => absurd h (by decide)⟩
     refine ⟨fun _ => ?_, fun h => absurd h (by decide)⟩
     refine ⟨fun _ => ?_, fun h => absurd (show decide (A = A) = false from h) (by simp)⟩
     refine ⟨fun h1 => ?_, fun h1 => ?_⟩
     · exact ⟨_, _, _, Le.refl _ _, rfl, rfl, trivial, rfl⟩
     · have h1 : ¬ ((rest : Nat) : Int) = ((c.length : Nat) : Int) := of_decide_eq_false h1
       obtain ⟨hs1, hs2⟩ := hst.resolve_left (fun e => h1 (by rw [e]))
       refine ⟨fun _ => ?_, fun h2 => absurd (show st = false from h2) (by rw [hs1]; decide)⟩
       have n4 : (-9223372036854775808 : Int) ≤ ((c.length : Nat) : Int) + 16 ∧ ((c.length : Nat) : Int) + 16 ≤ 9223372036854775807 := by omega
       refine ⟨n4, ?_⟩
       have n5 : ((rest : Nat) : Int) = ((c.length : Nat) : Int) + 16 := by omega
       exact ⟨_, _, _, Le.refl _ _, rfl, (show decide (((rest : Nat) : Int) = ((c.length : Nat) : Int) + 16) = true from decide_eq_true n5), trivial, rfl⟩
   · have h : ¬ 16 ≤ b.length := by
       have h : ¬ (16 : Int) ≤ ((b.length : Nat) : Int) := of_decide_eq_false h
       omega
     have hr : rest = c.length := hrest.resolve_right (fun e => h e.1)
     show TrQ _ _ _ _ _ _ _
     refine TrQ.go tblOK (drawOK tblOK) [] (by kernel_rfl) (Le.sub (K' := ndK8 b c A rest false) (B' := []) ⟨rfl, rfl, rfl, rfl, rfl, rfl, trivial⟩ trivial) ?_
     refine ⟨_, _, _, _, alive20_fn, trivial, rfl, ?_⟩
     refine ⟨fun _ => ?_, fun h => absurd h (by decide)⟩
     refine ⟨fun _ => ?_, fun h => absurd h (by decide)⟩
     refine ⟨fun _ => ?_, fun h => absurd (show decide (A = A) = false from h) (by simp)⟩
     refine ⟨fun h1 => ?_, fun h1 => ?_⟩
     · exact ⟨_, _, _, Le.refl _ _, rfl, rfl, trivial, rfl⟩
     · exfalso
       have h1 : ¬ ((rest : Nat) : Int) = ((c.length : Nat) : Int) := of_decide_eq_false h1
       exact h1 (by rw [hr])
end Go.Proofs.YtojaemgabaehdaaGreat
