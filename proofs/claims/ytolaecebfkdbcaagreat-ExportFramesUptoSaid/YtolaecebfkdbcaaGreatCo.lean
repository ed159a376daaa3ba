/-
  Chains: Add.
-/
import Derived.Test.YtolaecebfkdbcaaGreatCm
import Derived.Test.YtolaecebfkdbcaaGreatPure
set_option linter.unusedVariables false
set_option linter.unusedSimpArgs false
set_option maxRecDepth 10000
namespace Go.Proofs.YtolaecebfkdbcaaGreat
open Go.RowKit Go.Proofs
theorem poolR.perm {I : Nat → Prop} {w : World} {L L' : List (Nat × Ob)} (h : L.Perm L') : ∀ {F : Nat → Prop}, poolR I w L F → poolR I w L' F := by
  induction h with
  | nil => exact fun h => h
  | cons x h ih =>
    rintro F ⟨F1, F2, p, h1, h2, h3, h4, h5⟩
    exact ⟨F1, F2, p, h1, h2, h3, h4, ih h5⟩
  | swap x y l =>
    rintro F ⟨F1, F2, p, h1, h2, h3, h4, G1, G2, r, g1, g2, g3, g4, g5⟩
    refine ⟨G1, fun z => F1 z ∨ G2 z, r, fun z => by rw [h1, g1]; exact or_swap, fun z hz hy => ?_, g3, g4, F1, G2, p, fun z => Iff.rfl, fun z hz hy => h2 z hz ((g1 z).2 (.inr hy)), h3, h4, g5⟩
    rcases hy with hy | hy
    · exact h2 z hy ((g1 z).2 (.inl hz))
    · exact g2 z hz hy
  | trans _ _ ih1 ih2 => exact fun h => ih2 (ih1 h)
theorem Le.perm {ids : List Nat} {K : KL} {B : BL} (q : Nat) {L L' : List (Nat × Ob)} (hp : L.Perm L') (hq : lookB B q = some (.obj (.pool L))) : Le ids K B K ((q, .obj (.pool L')) :: B) := by
  rintro N C a w ⟨hn, hd, ρ, F, hM, hS⟩
  obtain ⟨hM', hE⟩ := hM.turn (w' := w) (ch := .obj (.pool L')) hq (Fr.refl _ _) fun I hI => ((hM.holds q _ hq : poolR _ w L (F q)).perm hp).stable hI (Nat.le_refl _) fun _ _ => rfl
  exact ⟨hn, hd, ρ, F, hM', hS.mono hE fun _ _ _ => rfl⟩
theorem imO_anch {s : ImS} : (imO s).anch := by
  rintro I F w p ⟨ρ, G, h1, h2, h3, h4⟩
  obtain ⟨hF, _⟩ := h2 1001 _ rfl
  exact (h4 _).2 ⟨1001, _, rfl, (hF _).2 (by rw [h1])⟩
/-- No image's place is told. -/
def Unp (L : List Dsk) : Prop := ∀ d, d ∈ L → d.pin = none
theorem imX_none {d : Dsk} (h : d.pin = none) : imX d = imO d.im := by unfold imX; rw [h]
theorem chM_anch (L : List Dsk) (hL : Unp L) : ∀ p ∈ chM L, p.2.anch := fun p hp => by
  obtain ⟨d, hd, rfl⟩ := List.mem_map.1 hp
  show (imX d).anch
  rw [imX_none (hL d hd)]
  exact imO_anch
theorem chD_anch (L : List Dsk) : ∀ p ∈ chD L, p.2.anch := fun p hp => by
  obtain ⟨d, _, rfl⟩ := List.mem_map.1 hp
  exact fun I F w p h => (h.1 _).2 rfl
theorem inew_okO (bits size room : Nat) (h1 : bits ≤ 3) (h2 : size ≤ 256) (h3 : room ≤ 512) : Fn Tryz.prog 45 [vI (bits : Int), vI (size : Int), vI (room : Int)] [] [1001] (.tup [.one (.ptr 1001 0), vErr 0]) [(1001, .obj (imO (iNew bits size room)))] := by
  refine Fn.of tblOK [3] _ _ _ _ _ Tryz.func45 rfl rfl (by kernel_rfl) (by kernel_rfl) rfl (drawOK tblOK) rfl ?_
  refine ⟨_, _, _, _, Fn.ren [(1001, 1002), (1002, 2002)] (tnew_ok size h2), trivial, rfl, ?_⟩
  refine ⟨_, _, _, _, Fn.ren [(1001, 1003), (1002, 2003)] (cnew_ok (room : Int) (by omega) (by omega)), trivial, rfl, ?_⟩
  show TrQ _ _ _ _ _ _ _
  refine TrQ.go tblOK (drawOK tblOK) [] (by kernel_rfl) (Le.sub (K' := [(0, vI (bits : Int)), (8, vP 1002), (9, vI 0), (10, vP 1003), (11, vI 0)]) (B' := [(1002, .obj (tabO (List.replicate size s0))), (1003, .obj (cntO (List.replicate room (0 : Int))))]) ⟨rfl, rfl, rfl, rfl, rfl, trivial⟩ ⟨rfl, rfl, trivial⟩) ?_
  refine ⟨fun h => absurd h (by decide), fun _ => ?_⟩
  refine ⟨fun h => absurd h (by decide), fun _ => ?_⟩
  refine ⟨fun h => ?_, fun h => ?_⟩
  · exfalso
    have h : (bits : Int) < 0 := of_decide_eq_true h
    omega
  refine ⟨fun h => ?_, fun h => ?_⟩
  · exfalso
    have h : (3 : Int) < (bits : Int) := of_decide_eq_true h
    omega
  refine ⟨rfl, ?_⟩
  refine ⟨rfl, ?_⟩
  exact ⟨_, _, _, Le.trans (Le.trans (Le.ren 41 1001 rfl) (Le.trans (Le.ren 39 1004 rfl) (Le.dataEmp 1004 rfl))) (Le.close 1001 (imB (iNew bits size room)) ⟨rfl, rfl, rfl, rfl, trivial⟩ rfl fun _ _ _ _ h => h), rfl, ⟨rfl, rfl, trivial⟩, ⟨rfl, trivial⟩, rfl⟩
@[reducible] def mkX (nm : List UInt8) (x : El .adr) : El .str × El .adr := ((nm : El .str), x)
theorem mput_new (nm : List UInt8) (x : El .adr) : ∀ L : List Dsk, dk L nm = none → mput (ku := .str) (vu := .adr) (chE L) (nm : El .str) x = (chE L ++ [mkX nm x] : List (El .str × El .adr))
  | [], _ => rfl
  | d :: L, h => by
    rw [dk_cons] at h
    by_cases e : d.nm = nm
    · rw [if_pos e] at h; cases h
    · rw [if_neg e] at h
      have ih := mput_new nm x L h
      show mput (ku := .str) (vu := .adr) (mkE d :: chE L) (nm : El .str) x = _
      rw [show mput (ku := .str) (vu := .adr) (mkE d :: chE L) (nm : El .str) x = (match eqKey .str (nm : El .str) (mkE d).1 with | true => mkX nm x :: chE L | false => mkE d :: mput (ku := .str) (vu := .adr) (chE L) (nm : El .str) x : List (El .str × El .adr)) from rfl]
      rw [show eqKey .str (nm : El .str) (mkE d).1 = false from eqKey_ne (ku := .str) eqKey_str (fun h => e h.symm)]
      simp only
      rw [ih]
      rfl
@[reducible] def adD (L : List Dsk) (nm back : List UInt8) (ad am : Nat) (im : ImS) : List Dsk := L ++ [⟨nm, back, ad, am, im, none⟩]
theorem ChN.add {L : List Dsk} (h : ChN L) {nm back : List UInt8} {ad am : Nat} {im : ImS} (h0 : dk L nm = none) (ha : ad ∉ L.map (·.ad)) (hm : am ∉ L.map (·.am)) : ChN (adD L nm back ad am im) := by
  have key : ∀ {α : Type} (f : Dsk → α) (d : Dsk), (L.map f).Nodup → f d ∉ L.map f → ((L ++ [d]).map f).Nodup := fun f d h1 h2 => by
    rw [List.map_append]
    refine List.nodup_append.2 ⟨h1, by simp, fun a ha b hb e => ?_⟩
    rw [List.map_cons, List.map_nil, List.mem_singleton] at hb
    exact h2 (by rw [← hb, ← e]; exact ha)
  refine ⟨key _ _ h.nms fun hx => ?_, key _ _ h.ads ha, key _ _ h.ams hm⟩
  obtain ⟨d, hd, e⟩ := List.mem_map.1 hx
  have := List.find?_eq_none.1 h0 d hd
  exact this (by simpa using e)
@[reducible] def adK (nm back : List UInt8) : KL := [(0, vP 1001), (1, vS nm), (3, vS back), (9, vP 2001), (10, vI 0)]
@[reducible] def adB (bits room : Int) (L : List Dsk) (im : ImS) : BL := chB bits room L ++ [(2001, .obj (imO im))]
theorem chE_add (L : List Dsk) (nm back : List UInt8) (ad am : Nat) (im : ImS) : chE (adD L nm back ad am im) = (chE L ++ [mkX nm (some ad : Option Nat)] : List (El .str × El .adr)) := by
  induction L with
  | nil => rfl
  | cons d L ih =>
    show mkE d :: chE (adD L nm back ad am im) = mkE d :: (chE L ++ [mkX nm (some ad : Option Nat)])
    rw [ih]
@[reducible] def adE (L : List Dsk) (nm back : List UInt8) (am : Nat) (im : ImS) : List Dsk := ⟨nm, back, 0, am, im, none⟩ :: L
theorem cons_perm {f : Dsk → Nat × Ob} (L : List Dsk) (d : Dsk) : (f d :: L.map f).Perm ((L ++ [d]).map f) := by
  rw [List.map_append]
  exact List.perm_append_comm (l₁ := [f d]) (l₂ := L.map f)
@[reducible] def adK2 (nm back : List UInt8) (am : Nat) : KL := [(0, vP 1001), (1, vS nm), (3, vS back), (9, vAd am)]
@[reducible] def adB2 (bits room : Int) (L : List Dsk) (am : Nat) (im : ImS) : BL := [(1001, .cells (chC bits room)), (1002, .map .str .adr (chE L)), (1003, .obj (.pool (chD L))), (1004, .obj (.pool ((am, imO im) :: chM L)))]
theorem add_ok (bits size room : Nat) (h1 : bits ≤ 3) (h2 : size ≤ 256) (h3 : room ≤ 512) (L : List Dsk) (hN : ChN L) (hP : Unp L) (nm back : List UInt8) (hl : nm.length ≤ 4294967296) (hr : nameOK nm = true) (h0 : dk L nm = none) (h16 : L.length < 16) (k : Nat) (hb : back = [] ∨ (dk L back).isSome = true ∧ Dn L back k ∧ k + 1 ≤ 8) :
    FnX Tryz.prog 32 [vP 1001, vS nm, vI (size : Int), vS back] (chB bits room L) [] (X := { p : Nat × Nat // ChN (adD L nm back p.1 p.2 (iNew bits size room)) }) (fun _ => vI 0) (fun p => chB bits room (adD L nm back p.1.1 p.1.2 (iNew bits size room))) := by
  have hx : (mget (ku := .str) (vu := .adr) (chE L) nm).getD (dflt .adr) = none := by rw [cget, h0]; rfl
  have hlen : (chE L).length = L.length := List.length_map ..
  have hkn := known_fn bits room L back
  have hkb : (decide (back = []) || (dk L back).isSome) = true := by
    rcases hb with hb | ⟨hb, _⟩
    · rw [decide_eq_true hb]; rfl
    · rw [hb, Bool.or_true]
  rw [hkb] at hkn
  have hnw := inew_okO bits size room h1 h2 h3
  refine FnX.of tblOK [2,10] _ _ _ _ _ Tryz.func32 rfl rfl (by kernel_rfl) (by kernel_rfl) rfl (drawOK tblOK) rfl ?_
  refine ⟨_, _, _, _, Fn.ren [(1001, 2001)] hnw, trivial, rfl, ?_⟩
  refine ⟨rfl, ?_⟩
  show TrQ _ _ _ _ _ _ _
  refine TrQ.go tblOK (drawOK tblOK) [10] (by kernel_rfl) (Le.sub (K' := adK nm back) (B' := adB bits room L (iNew bits size room)) ⟨rfl, rfl, rfl, rfl, rfl, trivial⟩ ⟨rfl, rfl, rfl, rfl, rfl, trivial⟩) ?_
  refine ⟨_, _, _, _, files_Right_fn _ hl, trivial, rfl, ?_⟩
  refine ⟨fun e1 => ?_, fun e1 => ?_⟩
  · rw [hr] at e1; cases e1
  refine ⟨fun e2 => ?_, fun e2 => ?_⟩
  · exact absurd e2 (by decide)
  refine ⟨fun b' e3 => ?_, fun e3 => ?_⟩
  · exfalso
    have : (mget (ku := .str) (vu := .adr) (chE L) nm).getD (dflt .adr) = some b' := e3
    rw [hx] at this
    cases this
  refine ⟨fun e4 => ?_, fun e4 => ?_⟩
  · exfalso
    have e4 : (16 : Int) ≤ ((chE L).length : Int) := of_decide_eq_true e4
    omega
  refine ⟨_, _, _, _, hkn, ⟨rfl, rfl, rfl, rfl, trivial⟩, rfl, ?_⟩
  refine ⟨fun e5 => absurd e5 (by decide), fun _ => ?_⟩
  refine ⟨fun e6 => ?_, fun e6 => ?_⟩
  focus
    have e6 : ¬ back = [] := by simpa using e6
    obtain ⟨_, hk, hk8⟩ := hb.resolve_left e6
    have hbl := below_fn bits room L hN back k hk (by omega)
    have hblen := bl_len hk
    generalize bl L k back = bs at hbl hblen
    refine ⟨_, _, _, _, hbl, ⟨rfl, rfl, rfl, rfl, trivial⟩, rfl, ?_⟩
    have m1 : -9223372036854775808 ≤ (bs.length : Int) + 1 ∧ (bs.length : Int) + 1 ≤ 9223372036854775807 := by omega
    refine ⟨m1, ?_⟩
    refine ⟨fun e7 => ?_, fun _ => ?_⟩
    · exfalso
      have e7 : (8 : Int) < (bs.length : Int) + 1 := of_decide_eq_true e7
      omega
  all_goals
    show TrQ _ _ _ _ _ _ _
    refine TrQ.leX (LeX.name 9 2001 rfl rfl) fun am => ?_
    refine TrQ.le (K' := adK2 nm back am) (B' := adB2 bits room L am (iNew bits size room)) (Le.trans (Le.put 1004 2001 (by decide) rfl rfl) (Le.sub ⟨rfl, rfl, rfl, rfl, trivial⟩ ⟨rfl, rfl, rfl, rfl, trivial⟩)) ?_
    refine TrQ.leX (LeX.poolNd 1004 (L := (am, imO (iNew bits size room)) :: chM L) (chM_anch (adE L nm back am (iNew bits size room)) (fun d hd => (List.mem_cons.1 hd).elim (fun e => by rw [e]) (hP d))) rfl) fun hnd => ?_
    refine TrQ.regionX tblOK (by kernel_rfl) ?_
    refine ⟨rfl, ?_⟩
    refine ⟨_, opS_putPtr (c := 1002) (d := 72) (q := 1003) (ku := .str) (l := dskL am back) (h := fun _ => rfl) rfl Tryz.underlying112 (dk := .string) (by kernel_rfl) rfl rfl rfl rfl rfl rfl rfl (by decide) (by decide) (by decide) (chD_anch L), fun v e hv => ?_⟩
    obtain ⟨ad, hnb, rfl, rfl⟩ := hv
    have haN : ad ∉ L.map (·.ad) := fun h => hnb (by unfold chD; rw [List.map_map]; exact h)
    have hmN : am ∉ L.map (·.am) := fun h => (List.nodup_cons.1 hnd.down).1 (by show am ∈ (chM L).map (·.1); unfold chM; rw [List.map_map]; exact h)
    have eE : mput (ku := .str) (vu := .adr) (chE L) (nm : El .str) (some ad : Option Nat) = chE (adD L nm back ad am (iNew bits size room)) := (mput_new nm _ L h0).trans (chE_add L nm back ad am (iNew bits size room)).symm
    exact ⟨⟨(ad, am), hN.add h0 haN hmN⟩, _, _, _, Le.trans (Le.perm 1003 (cons_perm (f := fun d => (d.ad, dskO d.am d.back)) L ⟨nm, back, ad, am, iNew bits size room, none⟩) rfl) (Le.perm 1004 (cons_perm (f := fun d => (d.am, imX d)) L ⟨nm, back, ad, am, iNew bits size room, none⟩) rfl), rfl, rfl, ⟨rfl, congrArg (fun e => some (Ch.map .str .adr e)) eE, rfl, rfl, trivial⟩, rfl⟩
theorem add_arg (bits room : Int) (size : Int) (L : List Dsk) (nm back : List UInt8) (hl : nm.length ≤ 4294967296) (h : (nameOK nm && newMay bits size room) = false) : Fn Tryz.prog 32 [vP 1001, vS nm, vI size, vS back] (chB bits room L) [] (vI 1) (chB bits room L) := by
  rcases Bool.eq_false_or_eq_true (newMay bits size room) with h2 | h2
  · have hr : nameOK nm = false := by rw [h2, Bool.and_true] at h; exact h
    unfold newMay at h2
    simp only [Bool.and_eq_true, decide_eq_true_eq] at h2
    obtain ⟨⟨⟨a1, a2⟩, a3, a4⟩, a5, a6⟩ := h2
    obtain ⟨b, rfl⟩ := Int.eq_ofNat_of_zero_le a5
    obtain ⟨z, rfl⟩ := Int.eq_ofNat_of_zero_le a1
    obtain ⟨r, rfl⟩ := Int.eq_ofNat_of_zero_le a3
    have hnw := inew_okO b z r (by omega) (by omega) (by omega)
    refine Fn.of tblOK [2] _ _ _ _ _ Tryz.func32 rfl rfl (by kernel_rfl) (by kernel_rfl) rfl (drawOK tblOK) rfl ?_
    refine ⟨_, _, _, _, Fn.ren [(1001, 2001)] hnw, trivial, rfl, ?_⟩
    refine ⟨rfl, ?_⟩
    show TrQ _ _ _ _ _ _ _
    refine TrQ.go tblOK (drawOK tblOK) [] (by kernel_rfl) (Le.sub (K' := adK nm back) (B' := adB b r L (iNew b z r)) ⟨rfl, rfl, rfl, rfl, rfl, trivial⟩ ⟨rfl, rfl, rfl, rfl, rfl, trivial⟩) ?_
    refine ⟨_, _, _, _, files_Right_fn _ hl, trivial, rfl, ?_⟩
    refine ⟨fun e1 => ?_, fun e1 => ?_⟩
    · exact ⟨_, _, _, Le.refl _ _, rfl, rfl, ⟨rfl, rfl, rfl, rfl, trivial⟩, rfl⟩
    · rw [hr] at e1; cases e1
  · have hnw := inew_bad bits size room h2
    refine Fn.of tblOK [2] _ _ _ _ _ Tryz.func32 rfl rfl (by kernel_rfl) (by kernel_rfl) rfl (drawOK tblOK) rfl ?_
    refine ⟨_, _, _, _, hnw, trivial, rfl, ?_⟩
    refine ⟨rfl, ?_⟩
    show TrQ _ _ _ _ _ _ _
    refine TrQ.go tblOK (drawOK tblOK) [] (by kernel_rfl) (Le.sub (K' := [(0, vP 1001), (1, vS nm), (3, vS back), (10, vI 1)]) (B' := chB bits room L) ⟨rfl, rfl, rfl, rfl, trivial⟩ ⟨rfl, rfl, rfl, rfl, trivial⟩) ?_
    refine ⟨_, _, _, _, files_Right_fn _ hl, trivial, rfl, ?_⟩
    refine ⟨fun e1 => ?_, fun e1 => ?_⟩
    · exact ⟨_, _, _, Le.refl _ _, rfl, rfl, ⟨rfl, rfl, rfl, rfl, trivial⟩, rfl⟩
    refine ⟨fun e2 => ?_, fun e2 => ?_⟩
    · exact ⟨_, _, _, Le.refl _ _, rfl, rfl, ⟨rfl, rfl, rfl, rfl, trivial⟩, rfl⟩
    · exact absurd e2 (by decide)
theorem add_there (bits size room : Nat) (h1 : bits ≤ 3) (h2 : size ≤ 256) (h3 : room ≤ 512) (L : List Dsk) (nm back : List UInt8) (hl : nm.length ≤ 4294967296) (hr : nameOK nm = true) (h0 : (dk L nm).isSome = true ∨ 16 ≤ L.length) :
    Fn Tryz.prog 32 [vP 1001, vS nm, vI (size : Int), vS back] (chB bits room L) [] (vI 143) (chB bits room L) := by
  have hx : (mget (ku := .str) (vu := .adr) (chE L) nm).getD (dflt .adr) = ((dk L nm).map (·.ad) : Option Nat) := cget nm L
  have hlen : (chE L).length = L.length := List.length_map ..
  have hnw := inew_okO bits size room h1 h2 h3
  refine Fn.of tblOK [2] _ _ _ _ _ Tryz.func32 rfl rfl (by kernel_rfl) (by kernel_rfl) rfl (drawOK tblOK) rfl ?_
  refine ⟨_, _, _, _, Fn.ren [(1001, 2001)] hnw, trivial, rfl, ?_⟩
  refine ⟨rfl, ?_⟩
  show TrQ _ _ _ _ _ _ _
  refine TrQ.go tblOK (drawOK tblOK) [] (by kernel_rfl) (Le.sub (K' := adK nm back) (B' := adB bits room L (iNew bits size room)) ⟨rfl, rfl, rfl, rfl, rfl, trivial⟩ ⟨rfl, rfl, rfl, rfl, rfl, trivial⟩) ?_
  refine ⟨_, _, _, _, files_Right_fn _ hl, trivial, rfl, ?_⟩
  refine ⟨fun e1 => ?_, fun e1 => ?_⟩
  · rw [hr] at e1; cases e1
  refine ⟨fun e2 => ?_, fun e2 => ?_⟩
  · exact absurd e2 (by decide)
  refine ⟨fun b' e3 => ?_, fun e3 => ?_⟩
  · exact ⟨_, _, _, Le.refl _ _, rfl, rfl, ⟨rfl, rfl, rfl, rfl, trivial⟩, rfl⟩
  refine ⟨fun e4 => ?_, fun e4 => ?_⟩
  · exact ⟨_, _, _, Le.refl _ _, rfl, rfl, ⟨rfl, rfl, rfl, rfl, trivial⟩, rfl⟩
  · exfalso
    have e4 : ¬ (16 : Int) ≤ ((chE L).length : Int) := of_decide_eq_false e4
    have e3 : (mget (ku := .str) (vu := .adr) (chE L) nm).getD (dflt .adr) = none := e3
    rw [hx] at e3
    rcases h0 with h0 | h0
    · obtain ⟨d, hd⟩ := Option.isSome_iff_exists.1 h0
      rw [hd] at e3
      cases e3
    · omega
theorem add_unk (bits size room : Nat) (h1 : bits ≤ 3) (h2 : size ≤ 256) (h3 : room ≤ 512) (L : List Dsk) (nm back : List UInt8) (hl : nm.length ≤ 4294967296) (hr : nameOK nm = true) (h0 : dk L nm = none) (h16 : L.length < 16) (hb : (decide (back = []) || (dk L back).isSome) = false) :
    Fn Tryz.prog 32 [vP 1001, vS nm, vI (size : Int), vS back] (chB bits room L) [] (vI 140) (chB bits room L) := by
  have hx : (mget (ku := .str) (vu := .adr) (chE L) nm).getD (dflt .adr) = none := by rw [cget, h0]; rfl
  have hlen : (chE L).length = L.length := List.length_map ..
  have hkn := known_fn bits room L back
  rw [hb] at hkn
  have hnw := inew_okO bits size room h1 h2 h3
  refine Fn.of tblOK [2] _ _ _ _ _ Tryz.func32 rfl rfl (by kernel_rfl) (by kernel_rfl) rfl (drawOK tblOK) rfl ?_
  refine ⟨_, _, _, _, Fn.ren [(1001, 2001)] hnw, trivial, rfl, ?_⟩
  refine ⟨rfl, ?_⟩
  show TrQ _ _ _ _ _ _ _
  refine TrQ.go tblOK (drawOK tblOK) [] (by kernel_rfl) (Le.sub (K' := adK nm back) (B' := adB bits room L (iNew bits size room)) ⟨rfl, rfl, rfl, rfl, rfl, trivial⟩ ⟨rfl, rfl, rfl, rfl, rfl, trivial⟩) ?_
  refine ⟨_, _, _, _, files_Right_fn _ hl, trivial, rfl, ?_⟩
  refine ⟨fun e1 => ?_, fun e1 => ?_⟩
  · rw [hr] at e1; cases e1
  refine ⟨fun e2 => ?_, fun e2 => ?_⟩
  · exact absurd e2 (by decide)
  refine ⟨fun b' e3 => ?_, fun e3 => ?_⟩
  · exfalso
    have : (mget (ku := .str) (vu := .adr) (chE L) nm).getD (dflt .adr) = some b' := e3
    rw [hx] at this
    cases this
  refine ⟨fun e4 => ?_, fun e4 => ?_⟩
  · exfalso
    have e4 : (16 : Int) ≤ ((chE L).length : Int) := of_decide_eq_true e4
    omega
  refine ⟨_, _, _, _, hkn, ⟨rfl, rfl, rfl, rfl, trivial⟩, rfl, ?_⟩
  refine ⟨fun _ => ?_, fun e5 => absurd e5 (by decide)⟩
  exact ⟨_, _, _, Le.refl _ _, rfl, rfl, ⟨rfl, rfl, rfl, rfl, trivial⟩, rfl⟩
theorem add_deep (bits size room : Nat) (h1 : bits ≤ 3) (h2 : size ≤ 256) (h3 : room ≤ 512) (L : List Dsk) (hN : ChN L) (nm back : List UInt8) (hl : nm.length ≤ 4294967296) (hr : nameOK nm = true) (h0 : dk L nm = none) (h16 : L.length < 16) (hb0 : back ≠ []) (hb : (dk L back).isSome = true) (k : Nat) (hk : Dn L back k) (hkl : k ≤ 1000000) (hk8 : 8 < k + 1) :
    Fn Tryz.prog 32 [vP 1001, vS nm, vI (size : Int), vS back] (chB bits room L) [] (vI 142) (chB bits room L) := by
  have hx : (mget (ku := .str) (vu := .adr) (chE L) nm).getD (dflt .adr) = none := by rw [cget, h0]; rfl
  have hlen : (chE L).length = L.length := List.length_map ..
  have hkn := known_fn bits room L back
  rw [hb, Bool.or_true] at hkn
  have hnw := inew_okO bits size room h1 h2 h3
  refine Fn.of tblOK [2] _ _ _ _ _ Tryz.func32 rfl rfl (by kernel_rfl) (by kernel_rfl) rfl (drawOK tblOK) rfl ?_
  refine ⟨_, _, _, _, Fn.ren [(1001, 2001)] hnw, trivial, rfl, ?_⟩
  refine ⟨rfl, ?_⟩
  show TrQ _ _ _ _ _ _ _
  refine TrQ.go tblOK (drawOK tblOK) [] (by kernel_rfl) (Le.sub (K' := adK nm back) (B' := adB bits room L (iNew bits size room)) ⟨rfl, rfl, rfl, rfl, rfl, trivial⟩ ⟨rfl, rfl, rfl, rfl, rfl, trivial⟩) ?_
  refine ⟨_, _, _, _, files_Right_fn _ hl, trivial, rfl, ?_⟩
  refine ⟨fun e1 => ?_, fun e1 => ?_⟩
  · rw [hr] at e1; cases e1
  refine ⟨fun e2 => ?_, fun e2 => ?_⟩
  · exact absurd e2 (by decide)
  refine ⟨fun b' e3 => ?_, fun e3 => ?_⟩
  · exfalso
    have : (mget (ku := .str) (vu := .adr) (chE L) nm).getD (dflt .adr) = some b' := e3
    rw [hx] at this
    cases this
  refine ⟨fun e4 => ?_, fun e4 => ?_⟩
  · exfalso
    have e4 : (16 : Int) ≤ ((chE L).length : Int) := of_decide_eq_true e4
    omega
  refine ⟨_, _, _, _, hkn, ⟨rfl, rfl, rfl, rfl, trivial⟩, rfl, ?_⟩
  refine ⟨fun e5 => absurd e5 (by decide), fun _ => ?_⟩
  refine ⟨fun e6 => ?_, fun e6 => absurd (by simpa using e6) hb0⟩
  have hbl := below_fn bits room L hN back k hk hkl
  have hblen := bl_len hk
  generalize bl L k back = bs at hbl hblen
  refine ⟨_, _, _, _, hbl, ⟨rfl, rfl, rfl, rfl, trivial⟩, rfl, ?_⟩
  have m1 : -9223372036854775808 ≤ (bs.length : Int) + 1 ∧ (bs.length : Int) + 1 ≤ 9223372036854775807 := by omega
  refine ⟨m1, ?_⟩
  refine ⟨fun _ => ?_, fun e7 => ?_⟩
  · exact ⟨_, _, _, Le.refl _ _, rfl, rfl, ⟨rfl, rfl, rfl, rfl, trivial⟩, rfl⟩
  · exfalso
    have e7 : ¬ (8 : Int) < (bs.length : Int) + 1 := of_decide_eq_false e7
    omega
/-! Chains: Rebase. -/
/-- Where a text stands first; -1: nowhere. -/
def idxS (l : List (List UInt8)) (v : List UInt8) : Int := match l.idxOf? v with
  | some i => (i : Nat)
  | none => -1
theorem indexS_fn (l : List (List UInt8)) (v : List UInt8) (hl : l.length ≤ 4294967296) : Fn Tryz.prog 106 [vL .str l, vS v] [] [] (vI (idxS l v)) [] := by
  refine Fn.of tblOK [] _ _ _ _ _ Tryz.func106 rfl rfl (by kernel_rfl) (by kernel_rfl) rfl (drawOK tblOK) rfl ?_
  show TrQ _ _ _ _ _ _ _
  refine TrQ.loop tblOK (drawOK tblOK) [] (by kernel_rfl) (X := Nat) (fun k => [(0, vL .str l), (1, vS v), (7, vI (l.length : Nat)), (8, vI (k : Nat))]) (fun _ => []) (fun k => k ≤ l.length ∧ ∀ (i : Nat), i < k → l[i]? ≠ some v) (fun k => l.length - k) 0 ⟨Nat.zero_le _, fun i h => absurd h (Nat.not_lt_zero _)⟩ ?_ ?_
  · exact Le.sub ⟨rfl, rfl, rfl, rfl, trivial⟩ trivial
  intro k ⟨hk, hp⟩
  refine ⟨fun h => ?_, fun h => ?_⟩
  · have hk1 : k < l.length := by
      have h : decide ((k : Int) < (l.length : Int)) = true := h
      simpa using h
    refine ⟨by omega, l[k], lgAt (n := k) hk1, ?_⟩
    refine ⟨fun h2 => ?_, fun h2 => ?_⟩
    · have h2 : v = l[k] := of_decide_eq_true h2
      refine ⟨_, _, _, Le.refl _ _, rfl, (show ((k : Nat) : Int) = idxS l v from ?_), trivial, rfl⟩
      have : l.idxOf? v = some k := by
        rw [List.idxOf?_eq_some_iff]
        refine ⟨hk1, by simp [h2], fun j hj => ?_⟩
        have := hp j hj
        rw [List.getElem?_eq_getElem (by omega)] at this
        simpa using this
      rw [idxS, this]
    · have h2 : ¬ v = l[k] := of_decide_eq_false h2
      have m1 : -9223372036854775808 ≤ (k : Int) + 1 ∧ (k : Int) + 1 ≤ 9223372036854775807 := by omega
      have m2 : k + 1 ≤ l.length := by omega
      have m3 : l.length - (k + 1) < l.length - k := by omega
      refine ⟨m1, k + 1, ⟨m2, fun i hi => ?_⟩, m3, Le.sub ⟨rfl, rfl, rfl, rfl, trivial⟩ trivial⟩
      rcases Nat.lt_or_ge i k with h4 | h4
      · exact hp i h4
      · have : i = k := by omega
        subst this
        rw [List.getElem?_eq_getElem hk1]
        intro e
        injection e with e
        exact h2 e.symm
  · have h : decide ((k : Int) < (l.length : Int)) = false := h
    have hk2 : k = l.length := by simp at h; omega
    refine ⟨_, _, _, Le.refl _ _, rfl, (show (-1 : Int) = idxS l v from ?_), trivial, rfl⟩
    have : l.idxOf? v = none := by
      rw [List.idxOf?_eq_none_iff]
      intro hm
      obtain ⟨i, hi, e⟩ := List.getElem_of_mem hm
      have := hp i (by omega)
      rw [List.getElem?_eq_getElem hi] at this
      exact this (by rw [e])
    rw [idxS, this]
theorem containsS_fn (l : List (List UInt8)) (v : List UInt8) (hl : l.length ≤ 4294967296) : Fn Tryz.prog 76 [vL .str l, vS v] [] [] (vB (l.contains v)) [] := by
  refine Fn.of tblOK [] _ _ _ _ _ Tryz.func76 rfl rfl (by kernel_rfl) (by kernel_rfl) rfl (drawOK tblOK) rfl ?_
  refine ⟨_, _, _, _, indexS_fn l v hl, trivial, rfl, ?_⟩
  refine ⟨_, _, _, Le.refl _ _, rfl, (show decide (0 ≤ idxS l v) = l.contains v from ?_), trivial, rfl⟩
  unfold idxS
  cases h : l.idxOf? v with
  | none =>
    rw [List.idxOf?_eq_none_iff] at h
    simp [h]
  | some i =>
    obtain ⟨hi, e, _⟩ := List.idxOf?_eq_some_iff.1 h
    have : v ∈ l := by
      have := List.getElem_mem hi
      rwa [show l[i] = v by simpa using e] at this
    simp [this]
theorem rebase_unk (bits room : Int) (L : List Dsk) (nm back : List UInt8) (h : (dk L nm).isSome = false ∨ (decide (back = []) || (dk L back).isSome) = false) : Fn Tryz.prog 47 [vP 1001, vS nm, vS back] (chB bits room L) [] (vI 140) (chB bits room L) := by
  have hkn := known_fn bits room L back
  refine Fn.of tblOK [] _ _ _ _ _ Tryz.func47 rfl rfl (by kernel_rfl) (by kernel_rfl) rfl (drawOK tblOK) rfl ?_
  refine ⟨fun b' e3 => ?_, fun e3 => ?_⟩
  · obtain ⟨d, hd, _⟩ := cget_some e3
    have hb : (decide (back = []) || (dk L back).isSome) = false := h.resolve_left (by rw [hd]; intro h; cases h)
    rw [hb] at hkn
    refine ⟨_, _, _, _, hkn, ⟨rfl, rfl, rfl, rfl, trivial⟩, rfl, ?_⟩
    refine ⟨fun _ => ?_, fun e5 => absurd e5 (by decide)⟩
    exact ⟨_, _, _, Le.refl _ _, rfl, rfl, ⟨rfl, rfl, rfl, rfl, trivial⟩, rfl⟩
  · exact ⟨_, _, _, Le.refl _ _, rfl, rfl, ⟨rfl, rfl, rfl, rfl, trivial⟩, rfl⟩
theorem rebase_loop (bits room : Int) (L : List Dsk) (hN : ChN L) (nm back : List UInt8) (d : Dsk) (hd : dk L nm = some d) (hk : (decide (back = []) || (dk L back).isSome) = true) (k : Nat) (hD : Dn L back k) (hkl : k ≤ 1000000) (h : nm = back ∨ nm ∈ bl L k back) : Fn Tryz.prog 47 [vP 1001, vS nm, vS back] (chB bits room L) [] (vI 141) (chB bits room L) := by
  have hkn := known_fn bits room L back
  rw [hk] at hkn
  have hx : (mget (ku := .str) (vu := .adr) (chE L) nm).getD (dflt .adr) = some d.ad := by rw [cget, hd]; rfl
  have hbl := below_fn bits room L hN back k hD hkl
  have hblen := bl_len hD
  generalize bl L k back = bs at hbl hblen h
  have hcn := containsS_fn bs nm (by omega)
  refine Fn.of tblOK [] _ _ _ _ _ Tryz.func47 rfl rfl (by kernel_rfl) (by kernel_rfl) rfl (drawOK tblOK) rfl ?_
  refine ⟨fun b' e3 => ?_, fun hb => absurd (show (mget (ku := .str) (vu := .adr) (chE L) nm).getD (dflt .adr) = none from hb) (by rw [hx]; intro h; cases h)⟩
  refine ⟨_, _, _, _, hkn, ⟨rfl, rfl, rfl, rfl, trivial⟩, rfl, ?_⟩
  refine ⟨fun e5 => absurd e5 (by decide), fun _ => ?_⟩
  refine ⟨fun e6 => ?_, fun e6 => ?_⟩
  · exact ⟨_, _, _, Le.refl _ _, rfl, rfl, ⟨rfl, rfl, rfl, rfl, trivial⟩, rfl⟩
  · have e6 : ¬ nm = back := of_decide_eq_false e6
    have hm : bs.contains nm = true := by simpa using h.resolve_left e6
    rw [hm] at hcn
    refine ⟨_, _, _, _, hbl, ⟨rfl, rfl, rfl, rfl, trivial⟩, rfl, ?_⟩
    refine ⟨_, _, _, _, hcn, trivial, rfl, ?_⟩
    refine ⟨fun _ => ?_, fun e5 => absurd e5 (by decide)⟩
    exact ⟨_, _, _, Le.refl _ _, rfl, rfl, ⟨rfl, rfl, rfl, rfl, trivial⟩, rfl⟩
/-! ### another backing -/
def rbD (nm back : List UInt8) (d : Dsk) : Dsk := if d.nm = nm then { d with back := back } else d
def lset (L : List Dsk) (nm back : List UInt8) : List Dsk := L.map (rbD nm back)
theorem rbD_nm (nm back : List UInt8) (d : Dsk) : (rbD nm back d).nm = d.nm := by unfold rbD; split <;> rfl
theorem rbD_ad (nm back : List UInt8) (d : Dsk) : (rbD nm back d).ad = d.ad := by unfold rbD; split <;> rfl
theorem rbD_am (nm back : List UInt8) (d : Dsk) : (rbD nm back d).am = d.am := by unfold rbD; split <;> rfl
theorem rbD_im (nm back : List UInt8) (d : Dsk) : (rbD nm back d).im = d.im := by unfold rbD; split <;> rfl
theorem rbD_pin (nm back : List UInt8) (d : Dsk) : (rbD nm back d).pin = d.pin := by unfold rbD; split <;> rfl
theorem lset_E (L : List Dsk) (nm back : List UInt8) : chE (lset L nm back) = chE L := by
  unfold chE lset
  rw [List.map_map]
  refine List.map_congr_left fun d _ => ?_
  show mkE (rbD nm back d) = mkE d
  unfold mkE
  rw [rbD_nm, rbD_ad]
theorem lset_M (L : List Dsk) (nm back : List UInt8) : chM (lset L nm back) = chM L := by
  unfold chM lset
  rw [List.map_map]
  refine List.map_congr_left fun d _ => ?_
  show ((rbD nm back d).am, imX (rbD nm back d)) = _
  unfold imX
  rw [rbD_am, rbD_im, rbD_pin]
theorem ChN.lset {L : List Dsk} (h : ChN L) (nm back : List UInt8) : ChN (lset L nm back) := by
  have key : ∀ {α : Type} (f : Dsk → α), (∀ d, f (rbD nm back d) = f d) → (Go.Proofs.YtolaecebfkdbcaaGreat.lset L nm back).map f = L.map f := fun f hf => by
    unfold Go.Proofs.YtolaecebfkdbcaaGreat.lset
    rw [List.map_map]
    exact List.map_congr_left fun d _ => hf d
  exact ⟨by rw [key _ (rbD_nm nm back)]; exact h.nms, by rw [key _ (rbD_ad nm back)]; exact h.ads, by rw [key _ (rbD_am nm back)]; exact h.ams⟩
theorem lset_none {L : List Dsk} {nm : List UInt8} (back : List UInt8) (h : nm ∉ L.map (·.nm)) : lset L nm back = L := by
  unfold lset
  refine (List.map_congr_left fun d hd => ?_).trans (List.map_id' L)
  unfold rbD
  rw [if_neg fun e => h (by rw [← e]; exact List.mem_map_of_mem hd)]
theorem pset_lset {back : List UInt8} {nm : List UInt8} : ∀ {L : List Dsk}, (L.map (·.nm)).Nodup → (L.map (·.ad)).Nodup → ∀ {d : Dsk}, dk L nm = some d → pset (chD L) d.ad (dskO d.am back) = chD (lset L nm back)
  | [], _, _, d, h => by cases h
  | e :: L, hn, ha, d, h => by
    rw [List.map_cons] at hn ha
    obtain ⟨n1, n2⟩ := List.nodup_cons.1 hn
    obtain ⟨a1, a2⟩ := List.nodup_cons.1 ha
    rw [dk_cons] at h
    show pset ((e.ad, dskO e.am e.back) :: chD L) d.ad (dskO d.am back) = chD (rbD nm back e :: lset L nm back)
    unfold pset
    by_cases c : e.nm = nm
    · rw [if_pos c] at h
      injection h with h
      subst h
      rw [if_pos rfl, lset_none back (by rw [← c]; exact n1)]
      unfold rbD
      rw [if_pos c]
      rfl
    · rw [if_neg c] at h
      have hne : ¬ e.ad = d.ad := fun x => a1 (by rw [x]; exact List.mem_map_of_mem (f := fun d : Dsk => d.ad) (dk_get h).1)
      rw [if_neg hne, pset_lset n2 a2 h]
      unfold rbD
      rw [if_neg c]
      rfl
theorem dk_lset (nm back n : List UInt8) : ∀ L : List Dsk, dk (lset L nm back) n = (dk L n).map (rbD nm back)
  | [] => rfl
  | d :: L => by
    show dk (rbD nm back d :: lset L nm back) n = _
    rw [dk_cons, dk_cons, rbD_nm, dk_lset nm back n L]
    split <;> rfl
theorem lset_back {L : List Dsk} (hn : (L.map (·.nm)).Nodup) {nm back : List UInt8} {d : Dsk} (h : dk L nm = some d) : lset (lset L nm back) nm d.back = L := by
  induction L with
  | nil => cases h
  | cons e L ih =>
    rw [List.map_cons] at hn
    obtain ⟨n1, n2⟩ := List.nodup_cons.1 hn
    rw [dk_cons] at h
    show rbD nm d.back (rbD nm back e) :: lset (lset L nm back) nm d.back = e :: L
    by_cases c : e.nm = nm
    · rw [if_pos c] at h
      injection h with h
      subst h
      have hL : nm ∉ L.map (·.nm) := by rw [← c]; exact n1
      rw [lset_none back hL, lset_none _ hL]
      congr 1
      unfold rbD
      rw [if_pos c, if_pos c]
    · rw [if_neg c] at h
      rw [ih n2 h]
      congr 1
      unfold rbD
      rw [if_neg c, if_neg c]
@[reducible] def rbK (nm back old : List UInt8) (ad : Nat) : KL := [(0, vP 1001), (1, vS nm), (2, vS back), (7, vAd ad), (8, vS old)]
@[reducible] def rbL (old : List UInt8) (ad : Nat) (l : List (List UInt8)) (j : Nat) : KL := [(0, vP 1001), (7, vAd ad), (8, vS old), (46, vL .str l), (47, vI (l.length : Nat)), (48, vI (j : Nat))]
theorem strCell {I : Nat → Prop} {w : World} {s : List UInt8} {z : Value} (h : Den I w (.str s) z) : z.cells = List.toArray [z] ∧ z.oneCell' = true := by
  have h : z = .string ⟨s.toArray⟩ := h
  subst h
  exact ⟨rfl, rfl⟩
theorem rebase_fn (bits room : Int) (L : List Dsk) (hN : ChN L) (hl : ∀ d, d ∈ L → d.nm.length ≤ 100000) (h16 : L.length ≤ 100) (nm back : List UInt8) (d : Dsk) (hd : dk L nm = some d) (hk : (decide (back = []) || (dk L back).isSome) = true) (k : Nat) (hD : Dn L back k) (hkl : k ≤ 1000000) (h : ¬ (nm = back ∨ nm ∈ bl L k back))
    (kf : List UInt8 → Nat) (hkf : ∀ n ∈ nmsS L, Dn (lset L nm back) n (kf n) ∧ kf n ≤ 1000000) (r : Int) (LR : List Dsk) (hok : (∀ n ∈ nmsS L, kf n ≤ 8) → r = 0 ∧ LR = lset L nm back) (hno : (∃ n ∈ nmsS L, 8 < kf n) → r = 142 ∧ LR = L) :
    Fn Tryz.prog 47 [vP 1001, vS nm, vS back] (chB bits room L) [] (vI r) (chB bits room LR) := by
  obtain ⟨ia, ia1, ia2⟩ := inf_of infStr
  have hkn := known_fn bits room L back
  rw [hk] at hkn
  have hx : (mget (ku := .str) (vu := .adr) (chE L) nm).getD (dflt .adr) = some d.ad := by rw [cget, hd]; rfl
  have hbl := below_fn bits room L hN back k hD hkl
  have hblen := bl_len hD
  generalize bl L k back = bs at hbl hblen h
  have hcn := containsS_fn bs nm (by omega)
  have hc0 : bs.contains nm = false := by
    have := fun e => h (.inr e)
    simpa using this
  rw [hc0] at hcn
  have hLd := hN.D (dk_get hd).1
  have hN2 := hN.lset nm back
  have hd2 : dk (lset L nm back) nm = some (rbD nm back d) := by rw [dk_lset, hd]; rfl
  have hLd2 := hN2.D (dk_get hd2).1
  rw [rbD_ad, rbD_am, show (rbD nm back d).back = back by unfold rbD; rw [if_pos (dk_get hd).2]] at hLd2
  have eE := lset_E L nm back
  have eM := lset_M L nm back
  have eD : pset (chD L) d.ad (dskO d.am back) = chD (lset L nm back) := pset_lset hN.nms hN.ads hd
  have eB : pset (chD (lset L nm back)) d.ad (dskO d.am d.back) = chD L := by
    have := pset_lset (back := d.back) hN2.nms hN2.ads hd2
    rw [rbD_ad, rbD_am, lset_back hN.nms hd] at this
    exact this
  have hnf := names_fn bits room (lset L nm back) hN2 (fun x hx => by
    obtain ⟨y, hy, rfl⟩ := List.mem_map.1 hx
    rw [rbD_nm]
    exact hl y hy) (by unfold lset; rw [List.length_map]; exact h16)
  have enm : nmsS (lset L nm back) = nmsS L := by unfold nmsS; rw [eE]
  rw [enm] at hnf
  have hlen := nmsS_len L
  generalize nmsS L = l at *
  refine Fn.of tblOK [6,8,12] _ _ _ _ _ Tryz.func47 rfl rfl (by kernel_rfl) (by kernel_rfl) rfl (drawOK tblOK) rfl ?_
  refine ⟨fun b' e3 => ?_, fun hb => absurd (show (mget (ku := .str) (vu := .adr) (chE L) nm).getD (dflt .adr) = none from hb) (by rw [hx]; intro h; cases h)⟩
  refine ⟨_, _, _, _, hkn, ⟨rfl, rfl, rfl, rfl, trivial⟩, rfl, ?_⟩
  refine ⟨fun e5 => absurd e5 (by decide), fun _ => ?_⟩
  refine ⟨fun e6 => ?_, fun e6 => ?_⟩
  · exact absurd (.inl (of_decide_eq_true e6)) h
  refine ⟨_, _, _, _, hbl, ⟨rfl, rfl, rfl, rfl, trivial⟩, rfl, ?_⟩
  refine ⟨_, _, _, _, hcn, trivial, rfl, ?_⟩
  refine ⟨fun e5 => absurd e5 (by decide), fun _ => ?_⟩
  show TrQ _ _ _ _ _ _ _
  refine TrQ.go tblOK (drawOK tblOK) [8,12] (by kernel_rfl) (Le.refl _ _) ?_
  refine ⟨_, _, fun N => opOK_nilAdr (b := d.ad) rfl (by exact adrV_eq hx) N, rfl, ?_⟩
  refine ⟨_, _, fun N => opOK_fieldAdr rfl Tryz.underlying124 rfl rfl ia1 (by rw [ia2]; decide) rfl N, rfl, ?_⟩
  refine ⟨_, _, fun N => opOK_loadRaw (q := 1003) rfl Tryz.underlying9 rfl rfl rfl hLd rfl N, rfl, ?_⟩
  refine ⟨_, _, fun N => opOK_nilAdr (b := d.ad) rfl (by exact adrV_eq hx) N, rfl, ?_⟩
  refine ⟨_, _, fun N => opOK_fieldAdr rfl Tryz.underlying124 rfl rfl ia1 (by rw [ia2]; decide) rfl N, rfl, ?_⟩
  refine ⟨_, _, fun N => opOK_storeRaw (q := 1003) (b := d.ad) (j := 1) (y := .str back) (l := dskL d.am d.back) (h' := fun _ => rfl) rfl ia1 ia2 rfl rfl rfl hLd (Nat.lt_succ_self 1) strCell N, rfl, ?_⟩
  show TrQ _ _ _ _ _ _ _
  refine TrQ.go tblOK (drawOK tblOK) [12] (by kernel_rfl) (Le.sub (K' := rbK nm back d.back d.ad) (B' := chB bits room (lset L nm back)) ⟨rfl, rfl, rfl, hx, rfl, trivial⟩ ⟨rfl, congrArg (fun e => some (Ch.map .str .adr e)) eE.symm, congrArg (fun e => some (Ch.obj (.pool e))) eD, congrArg (fun e => some (Ch.obj (.pool e))) eM.symm, trivial⟩) ?_
  refine ⟨_, _, _, _, hnf, ⟨rfl, rfl, rfl, rfl, trivial⟩, rfl, ?_⟩
  show TrQ _ _ _ _ _ _ _
  refine TrQ.loop tblOK (drawOK tblOK) [12] (by kernel_rfl) (X := Nat) (rbL d.back d.ad l) (fun _ => chB bits room (lset L nm back)) (fun j => j ≤ l.length ∧ ∀ n ∈ l.take j, kf n ≤ 8) (fun j => l.length - j) 0 ⟨Nat.zero_le _, fun n hn => by rw [List.take_zero] at hn; cases hn⟩ ?_ ?_
  · exact Le.sub ⟨rfl, rfl, rfl, rfl, rfl, rfl, trivial⟩ ⟨rfl, rfl, rfl, rfl, trivial⟩
  intro j ⟨hj, hjp⟩
  refine ⟨fun h => ?_, fun h => ?_⟩
  · have h : decide ((j : Int) < (l.length : Nat)) = true := h
    have hj2 : j < l.length := by simpa using h
    have m3 : (0 : Int) ≤ (j : Int) := by omega
    have m6 : (-9223372036854775808 : Int) ≤ (j : Int) + 1 ∧ (j : Int) + 1 ≤ 9223372036854775807 := by omega
    obtain ⟨hDn, hDl⟩ := hkf _ (List.getElem_mem hj2)
    have hmem := List.getElem_mem hj2
    have htk := List.take_succ_eq_append_getElem hj2
    have hb2 := below_fn bits room (lset L nm back) hN2 _ _ hDn hDl
    have hb2l := bl_len hDn
    refine ⟨m3, l[j], lgAt (n := j) hj2, ?_⟩
    generalize l[j] = n at *
    generalize bl (lset L nm back) (kf n) n = ns at hb2 hb2l
    refine ⟨_, _, _, _, hb2, ⟨rfl, rfl, rfl, rfl, trivial⟩, rfl, ?_⟩
    refine ⟨fun e7 => ?_, fun e7 => ?_⟩
    · have e7 : (8 : Int) < (ns.length : Int) := of_decide_eq_true e7
      obtain ⟨rfl, rfl⟩ := hno ⟨n, hmem, by omega⟩
      show TrQ _ _ _ _ _ _ _
      refine TrQ.go tblOK (drawOK tblOK) [] (by kernel_rfl) (Le.sub (K' := [(7, vAd d.ad), (8, vS d.back)]) (B' := chB bits room (lset LR nm back)) ⟨rfl, rfl, trivial⟩ ⟨rfl, rfl, rfl, rfl, trivial⟩) ?_
      refine ⟨_, _, fun N => opOK_nilAdr (b := d.ad) rfl rfl N, rfl, ?_⟩
      refine ⟨_, _, fun N => opOK_fieldAdr rfl Tryz.underlying124 rfl rfl ia1 (by rw [ia2]; decide) rfl N, rfl, ?_⟩
      refine ⟨_, _, fun N => opOK_storeRaw (q := 1003) (b := d.ad) (j := 1) (y := .str d.back) (l := dskL d.am back) (h' := fun _ => rfl) rfl ia1 ia2 rfl rfl rfl hLd2 (Nat.lt_succ_self 1) strCell N, rfl, ?_⟩
      exact ⟨_, _, _, Le.refl _ _, rfl, rfl, ⟨rfl, congrArg (fun e => some (Ch.map .str .adr e)) eE, congrArg (fun e => some (Ch.obj (.pool e))) eB, congrArg (fun e => some (Ch.obj (.pool e))) eM, trivial⟩, rfl⟩
    · have e7 : ¬ (8 : Int) < (ns.length : Int) := of_decide_eq_false e7
      refine ⟨m6, j + 1, ⟨hj2, fun n' hn' => ?_⟩, by omega, Le.sub ⟨rfl, rfl, rfl, rfl, rfl, rfl, trivial⟩ ⟨rfl, rfl, rfl, rfl, trivial⟩⟩
      rw [htk] at hn'
      rcases List.mem_append.1 hn' with hn' | hn'
      · exact hjp n' hn'
      · rw [List.mem_singleton] at hn'
        subst hn'
        omega
  · have h : decide ((j : Int) < (l.length : Nat)) = false := h
    have hj2 : j = l.length := by simp at h; omega
    subst hj2
    rw [List.take_length] at hjp
    obtain ⟨rfl, rfl⟩ := hok hjp
    exact ⟨_, _, _, Le.refl _ _, rfl, rfl, ⟨rfl, rfl, rfl, rfl, trivial⟩, rfl⟩
end Go.Proofs.YtolaecebfkdbcaaGreat
