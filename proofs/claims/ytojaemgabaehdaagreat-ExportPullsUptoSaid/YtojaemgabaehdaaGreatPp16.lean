/-
Part 16 of the proof that stands in YtojaemgabaehdaaGreatPpRow, with what it needs from the parts ahead; the parts of this text: By, Bx, Di, Dx, Mo, Dz, Dw, Dv, Dm, Eh, Tl, Lz, Lt, Kw.
-/
import Derived.Test.YtojaemgabaehdaaGreatPp15
/-!
  Bitmaps: granules, Clear, Row, Copy, Merge, Resize.
-/
namespace Go.Proofs.YtojaemgabaehdaaGreat
set_option linter.unusedVariables false
set_option linter.unusedSimpArgs false
set_option maxRecDepth 10000
open Go.RowKit Go.Proofs
/-! ### Clear -/
/-! ### Row -/
def bzKs (g : Int) (es : List (El uI × El uI)) (n : Nat) : List Int := (List.range n).map fun k => if bzIs g es k = true then 1 else 0
theorem bzKs_succ (g : Int) (es : List (El uI × El uI)) (n : Nat) : bzKs g es (n + 1) = bzKs g es n ++ [if bzIs g es n = true then 1 else 0] := by
 unfold bzKs
 rw [List.range_succ, List.map_append]
 rfl
theorem bzKs_len (g : Int) (es : List (El uI × El uI)) (n : Nat) : (bzKs g es n).length = n := by
 unfold bzKs
 rw [List.length_map, List.length_range]
def bzRow (s g : Int) (es : List (El uI × El uI)) : List Xt := exOf (bzKs g es s.toNat)
@[reducible] def brK (s : Int) (j : Nat) : KL := [(0, vP 1001), (3, vOwn 5002), (9, vI s), (10, vI (j : Nat))]
@[reducible] def brK2 (s : Int) (j : Nat) : KL := [(0, vP 1001), (3, vOwn 19), (9, vI s), (10, vI (j : Nat))]
@[reducible] def brB (s g : Int) (es : List (El uI × El uI)) (x : List Int) : BL := bzB s g es ++ [(5002, .row 3 uI x)]
@[reducible] def brB2 (s g : Int) (es : List (El uI × El uI)) (x : List Int) : BL := bzB s g es ++ [(19, .row 3 uI x)]
theorem bzrow_fn (s g : Int) (es : List (El uI × El uI)) (hs : 0 ≤ s ∧ s ≤ 4096) (hg : 1 ≤ g) : Fn Tryz.prog 293 [vP 1001] (bzB s g es) [] (vL uEx (bzRow s g es)) (bzB s g es) := by
 have hof := sof_fn (bzKs g es s.toNat) (by rw [bzKs_len]; omega)
 unfold bzRow
 refine Fn.of tblOK [] _ _ _ _ _ Tryz.func293 rfl rfl (by kernel_rfl) (by kernel_rfl) rfl (drawOK tblOK) rfl ?_
 show TrQ _ _ _ _ _ _ _
 refine TrQ.loop tblOK (drawOK tblOK) [] (by kernel_rfl) (X := Nat) (fun j => brK s j) (fun j => brB s g es (bzKs g es j)) (fun j => j ≤ s.toNat) (fun j => s.toNat - j) 0 (Nat.zero_le _) ?_ ?_
 · exact (Le.nil 3 5002 3 uI rfl rfl).trans (Le.sub ⟨rfl, rfl, rfl, rfl, trivial⟩ ⟨rfl, rfl, rfl, trivial⟩)
 intro j hj
 have hj : j ≤ s.toNat := hj
 have hsu := bzKs_succ g es j
 have hln := bzKs_len g es j
 refine ⟨fun hc => ?_, fun hc => ?_⟩
 · have hc : decide ((j : Int) < s) = true := hc
   have hj1 : (j : Int) < s := of_decide_eq_true hc
   have hi := bzis_fn s g es j hg hj1 hs.2
   have m : List.length (α := Int) (bzKs g es j) + 1 ≤ 4294967296 := by omega
   have m2 : (-9223372036854775808 : Int) ≤ (j : Int) + 1 ∧ (j : Int) + 1 ≤ 9223372036854775807 := by omega
   generalize bzKs g es j = ks at *
   generalize bzIs g es j = b at *
   refine ⟨_, _, _, _, hi, ⟨rfl, rfl, trivial⟩, rfl, ?_⟩
   refine ⟨fun hb => ?_, fun hb => ?_⟩
   · have hb : b = true := hb
     subst hb
     have hsu : bzKs g es (j + 1) = ks ++ [1] := hsu
     refine ⟨m, rfl, m2, j + 1, (by show j + 1 ≤ s.toNat; omega), (by show s.toNat - (j + 1) < s.toNat - j; omega), ?_⟩
     refine Le.trans (Le.sub (K' := brK2 s (j + 1)) (B' := brB2 s g es (bzKs g es (j + 1))) ⟨rfl, rfl, rfl, rfl, trivial⟩ ⟨rfl, rfl, congrArg (fun z : List Int => some (Ch.row 3 uI z)) hsu.symm, trivial⟩) ?_
     exact (Le.ren 19 5002 rfl).trans (Le.sub ⟨rfl, rfl, rfl, rfl, trivial⟩ ⟨rfl, rfl, rfl, trivial⟩)
   · have hb : b = false := hb
     subst hb
     have hsu : bzKs g es (j + 1) = ks ++ [0] := hsu
     refine ⟨m, rfl, m2, j + 1, (by show j + 1 ≤ s.toNat; omega), (by show s.toNat - (j + 1) < s.toNat - j; omega), ?_⟩
     refine Le.trans (Le.sub (K' := brK2 s (j + 1)) (B' := brB2 s g es (bzKs g es (j + 1))) ⟨rfl, rfl, rfl, rfl, trivial⟩ ⟨rfl, rfl, congrArg (fun z : List Int => some (Ch.row 3 uI z)) hsu.symm, trivial⟩) ?_
     exact (Le.ren 19 5002 rfl).trans (Le.sub ⟨rfl, rfl, rfl, rfl, trivial⟩ ⟨rfl, rfl, rfl, trivial⟩)
 · have hc : decide ((j : Int) < s) = false := hc
   have hj2 : j = s.toNat := by have := of_decide_eq_false hc; omega
   subst hj2
   refine ⟨_, _, _, _, Fn.own (d := 5002) (e := 3) (u := uI) (xs := bzKs g es s.toNat) (args := [vOwn 5002]) hof rfl, ⟨rfl, trivial⟩, rfl, ?_⟩
   exact ⟨_, _, _, Le.refl _ _, rfl, rfl, ⟨rfl, rfl, trivial⟩, rfl⟩
/-! ### Copy -/
theorem mapsCloneB_fn (es : List (El uI × El uI)) : Fn Tryz.prog 235 [.c (.one (.mp 1001))] [(1001, .map uI uI es)] [2001] (.c (.one (.mp 2001))) [(1001, .map uI uI es), (2001, .map uI uI es)] :=
 mapsClone_gen Tryz.clone235 (by kernel_rfl) es
theorem bzcopy_fn (s g : Int) (es : List (El uI × El uI)) : Fn Tryz.prog 163 [vP 1001] (bzB s g es) [2001, 2002] (vP 2001) (bzB s g es ++ [(2001, .cells [.d (.int .i64 s), .d (.int .i64 g), .mp 2002]), (2002, .map uI uI es)]) := by
 refine Fn.of tblOK [] _ _ _ _ _ Tryz.func163 rfl rfl (by kernel_rfl) (by kernel_rfl) rfl (drawOK tblOK) rfl ?_
 refine ⟨_, _, _, _, Fn.ren [(1001, 1002), (2001, 2002)] (mapsCloneB_fn es), ⟨rfl, trivial⟩, rfl, ?_⟩
 refine ⟨rfl, ?_⟩
 refine ⟨indep_of (by kernel_rfl), ?_⟩
 exact ⟨_, _, _, Le.ren 17 2001 rfl, rfl, rfl, ⟨rfl, rfl, rfl, rfl, trivial⟩, rfl⟩
/-! ### Each, Merge -/
theorem exOf_in {ks : List Int} (hk : ks.length ≤ 65536) : (exOf ks).length ≤ 65536 ∧ ∀ x, x ∈ exOf ks → -4611686018427387904 ≤ x.2.1 ∧ x.2.1 ≤ 4611686018427387903 := by
 have h := exOf_ok ks
 refine ⟨by have := h.len; omega, fun x hx => ?_⟩
 have := h.each x hx
 omega
theorem exCut_len (l : List Xt) (fr lg : Int) : (exCut l fr lg).length ≤ l.length := by
 unfold exCut
 split
 · have := exCutN_len l fr lg l.length
   unfold exCutN at this
   rwa [List.take_length] at this
 · exact Nat.zero_le _
end Go.Proofs.YtojaemgabaehdaaGreat
/-!
  Bitmaps: Resize.
-/
namespace Go.Proofs.YtojaemgabaehdaaGreat
set_option linter.unusedVariables false
set_option linter.unusedSimpArgs false
set_option maxRecDepth 10000
open Go.RowKit Go.Proofs
abbrev EnI (vu : U) := Nat × (El uI × El vu)
def kI {vu : U} (p : EnI vu) : Int := p.2.1
/-- The entries that are left behind those of 'seen': whoever was seen and is to go is gone. -/
def gone {vu : U} (n : Int) (seen : List Nat) (l : List (EnI vu)) : List (EnI vu) := l.filter fun p => !(seen.contains p.1 && decide (n ≤ kI p))
/-! ### who has each key once -/
theorem bzPut_nd {es : List (El uI × El uI)} (h : KNd es) (f : Int) : ∀ n, KNd (bzPut es f n)
 | 0 => h
 | n + 1 => KNd.put eqKey_int (bzPut_nd h f n)
theorem bzSet_nd {s g : Int} {es : List (El uI × El uI)} (h : KNd es) (fr lg : Int) : KNd (bzSet s g es fr lg) := by
 unfold bzSet
 split
 · exact bzPut_nd h _ _
 · exact h
end Go.Proofs.YtojaemgabaehdaaGreat
/-!
  Directories: the model; New, Names, Add, Remove, Switch, Clear.
-/
namespace Go.Proofs.YtojaemgabaehdaaGreat
set_option linter.unusedVariables false
set_option linter.unusedSimpArgs false
set_option maxRecDepth 10000
open Go.RowKit Go.Proofs Go.Maps Go.Shelf Go.MapKept
open Go.WideElems (Fit rd rg pl rd_val rd_key rg_of)
theorem mapsKeysE_fn (es : List (El .str × El .adr)) : Fn Tryz.prog 311 [.c (.one (.mp 1001))] [(1001, .map .str .adr es)] [2001] (.c (.one (.clo 349 [.p 2001 0]))) [(2001, .cells [.mp 1001]), (1001, .map .str .adr es)] := by
 refine Fn.of tblOK [] _ _ _ _ _ Tryz.func311 rfl rfl (by kernel_rfl) (by kernel_rfl) rfl (drawOK tblOK) rfl ?_
 refine ⟨rfl, ?_⟩
 exact ⟨_, _, _, Le.ren 1 2001 rfl, rfl, rfl, ⟨rfl, rfl, trivial⟩, rfl⟩
theorem sortedKeysE_fn (es : List (El .str × El .adr)) (hn : (mkeys es).Nodup) (hl : ∀ s ∈ mkeys es, s.length ≤ maxLen) (hs : es.length ≤ 4294967296) :
   Fn Tryz.prog 109 [.c (.one (.clo 349 [.p 2001 0]))] [(2001, .cells [.mp 1001]), (1001, .map .str .adr es)] [] (vL .str (keysS es)) [(2001, .cells [.mp 1001]), (1001, .map .str .adr es)] := by
 refine ⟨by kernel_rfl, fun ρ F I w vals hI hH hF hdj hlen hden => ?_⟩
 match vals, hlen with
 | [v], _ =>
   obtain ⟨vs, hv, w0, r, hvs, hw0, hr⟩ := hden 0 _ v rfl rfl
   have hr : r = [] := hr
   have hw0 : w0 = .pointer (some ⟨(ρ 2001).blk, 0, none⟩) := hw0
   subst hr hw0 hvs hv
   obtain ⟨_, vs, T, hb1, hvs⟩ := hH 2001 _ rfl
   obtain ⟨x, r, hvs, hx, hr⟩ := hvs
   have hr : r = [] := hr
   have hx : x = .map (some (ρ 1001).blk) := hx
   subst hr hx hvs
   obtain ⟨_, ents, clock, hb2, hm, hB⟩ := hH 1001 _ rfl
   have hmaxl : (4294967296 : Nat) ≤ maxLen := by decide
   obtain ⟨D0, hown, hsz, hperm⟩ := owns_of_map (P := Tryz.prog) (k := 9) (by kernel_rfl) hb2 hm hB hn hl (by omega)
   have hlt : (ρ 2001).blk < w.heap.size := lt_of_heap hb1
   have hseq : SeqGives Fence.wide 2 Tryz.prog 349 #[.pointer (some ⟨(ρ 2001).blk, 0, none⟩)] encStr (fun ss => ss.Perm (strKeys D0)) (Maps.size D0) w :=
     AnyZ.keys_gives (ρ := Tryz.keys311_ren) { Tryz.keys311 with } Fence.wide _ trivial rfl (by omega) (ρ 2001).blk (ρ 1001).blk es.length D0 w hlt (cell_of hb1 rfl) hown
   have hc := AnyZ.sorted_in Tryz.sorted109 Fence.wide 5 trivial trivial trivial trivial rfl (by omega) (sortsIn _) (enters_of Tryz.func200 (by kernel_rfl) rfl) 349 #[.pointer (some ⟨(ρ 2001).blk, 0, none⟩)] trivial (enters_of Tryz.func349 (by kernel_rfl) rfl) _ _ (by rw [hsz]; omega) (by rw [hsz]; omega) _ hseq
   refine (callsIn_wide.1 hc).mono ?_
   rintro e w' ⟨v, ss, rfl, hS, hrow, hnil, hbel⟩
   have hE : Ext I w (fun b => b < w'.heap.size ∧ (I b ∨ w.heap.size ≤ b)) w' := fun b hbI => ⟨⟨Nat.lt_of_lt_of_le (hI b hbI) hbel.size, .inl hbI⟩, hbel.block b (hI b hbI)⟩
   refine ⟨v, ρ, F, rfl, Fr.of_below hbel, fun _ _ => rfl, _, hE, fun b h => ⟨h.1, h.2.imp id .inr⟩, fun c ch hc => Holds.stable hE (fun b hb => hbel.block b (hF c ch hc b hb).1) hbel.size ch (fun _ _ => rfl) (hH c ch hc), fun c ch hc b hb => ?_, fun c c' ch ch' b h1 h2 => hdj c c' ch ch' b h1 h2, ?_⟩
   · have := hF c ch hc b hb
     exact ⟨Nat.lt_of_lt_of_le this.1 hbel.size, fun h => (by rcases h.2 with h | h; exact this.2 h; omega), .inl ⟨c, ch, hc, hb⟩⟩
   · have hk : ss.mergeSort (fun x y => decide (x ≤ y)) = keysS es := Go.mergeSort_of_perm (hS.trans hperm)
     rw [hk] at hrow
     have hsl := Sl.of_own hrow
     have hln : ss.length = (keysS es).length := by rw [← hk, List.length_mergeSort]
     rw [hln] at hsl
     exact (hsl.weaken fun i _ hi => (hrow.lt i hi).1).denStr fun b h1 h2 => ⟨h1, .inr h2⟩
/-- An entry: its name, where its block lies, where its bits lie; how it stands; its bits. -/
structure DEn where
 nm : List UInt8
 ad : Nat
 ab : Nat
 on : Bool
 us : Bool
 s : Int
 g : Int
 es : List (El uI × El uI)
@[reducible] def enE (e : DEn) : El .str × El .adr := ((e.nm : El .str), (some e.ad : El .adr))
@[reducible] def enL (nm : List UInt8) (on us : Bool) (ab : Nat) : List S1 := [.d (.str nm), .d (.bool on), .d (.bool us), .d (.adr (some ab))]
def enO (nm : List UInt8) (on us : Bool) (ab : Nat) : Ob := Ob.ch (.cells (enL nm on us ab)) (fun _ => rfl)
def bzO (s g : Int) (es : List (El uI × El uI)) : Ob := Ob.grp 1001 (bzB s g es)
def dE (l : List DEn) : List (El .str × El .adr) := l.map enE
@[reducible] def fD (e : DEn) : Nat × Ob := (e.ad, enO e.nm e.on e.us e.ab)
@[reducible] def fM (e : DEn) : Nat × Ob := (e.ab, bzO e.s e.g e.es)
def dD (l : List DEn) : List (Nat × Ob) := l.map fD
def dM (l : List DEn) : List (Nat × Ob) := l.map fM
@[reducible] def dirB (l : List DEn) : BL := [(1001, .cells [.mp 1002]), (1002, .map .str .adr (dE l)), (1003, .obj (.pool (dD l))), (1004, .obj (.pool (dM l)))]
def ek (l : List DEn) (nm : List UInt8) : Option DEn := l.find? fun e => decide (e.nm = nm)
theorem ek_cons (d : DEn) (L : List DEn) (nm : List UInt8) : ek (d :: L) nm = if d.nm = nm then some d else ek L nm := by
 unfold ek
 rw [List.find?_cons]
 by_cases e : d.nm = nm
 · rw [decide_eq_true e, if_pos e]
 · rw [decide_eq_false e, if_neg e]
theorem ek_get {l : List DEn} {nm : List UInt8} {e : DEn} (h : ek l nm = some e) : e ∈ l ∧ e.nm = nm := ⟨List.mem_of_find?_eq_some h, by have := List.find?_some h; simpa using this⟩
theorem eget (nm : List UInt8) : ∀ L : List DEn, (mget (ku := .str) (vu := .adr) (dE L) nm).getD (dflt .adr) = ((ek L nm).map (·.ad) : Option Nat)
 | [] => rfl
 | d :: L => by
   have ih := eget nm L
   show (mget (ku := .str) (vu := .adr) (enE d :: dE L) nm).getD (dflt .adr) = _
   rw [ek_cons]
   rw [show mget (ku := .str) (vu := .adr) (enE d :: dE L) nm = match eqKey .str (nm : El .str) (enE d).1 with | true => some (enE d).2 | false => mget (ku := .str) (vu := .adr) (dE L) nm from rfl]
   by_cases e : d.nm = nm
   · rw [show eqKey .str (nm : El .str) (enE d).1 = true from (eqKey_str _ _).2 e.symm, if_pos e]
     rfl
   · rw [show eqKey .str (nm : El .str) (enE d).1 = false from eqKey_ne (ku := .str) eqKey_str (fun h => e h.symm), if_neg e]
     exact ih
theorem pget_mapE {f : DEn → Nat × Ob} : ∀ {L : List DEn}, (L.map fun d => (f d).1).Nodup → ∀ {d : DEn}, d ∈ L → pget (L.map f) (f d).1 = some (f d).2
 | [], _, d, h => by cases h
 | e :: L, hn, d, h => by
   rw [List.map_cons] at hn
   obtain ⟨n1, n2⟩ := List.nodup_cons.1 hn
   rw [List.map_cons]
   unfold pget
   rcases List.mem_cons.1 h with rfl | h
   · rw [if_pos rfl]
   · rw [if_neg (fun e => n1 (by rw [e]; exact List.mem_map_of_mem (f := fun d => (f d).1) h))]
     exact pget_mapE n2 h
/-- One in the pool, turned. -/
theorem pset_mapE {f : DEn → Nat × Ob} {u : DEn → DEn} : ∀ {L : List DEn}, (L.map fun d => (f d).1).Nodup → ∀ {d : DEn}, d ∈ L → (f (u d)).1 = (f d).1 → pset (L.map f) (f d).1 (f (u d)).2 = (L.map fun x => if (f x).1 = (f d).1 then u x else x).map f
 | [], _, d, h, _ => by cases h
 | e :: L, hn, d, h, hk => by
   rw [List.map_cons] at hn
   obtain ⟨n1, n2⟩ := List.nodup_cons.1 hn
   rw [List.map_cons, List.map_cons, List.map_cons]
   unfold pset
   rcases List.mem_cons.1 h with rfl | h
   · rw [if_pos rfl, if_pos rfl]
     have hrest : (L.map fun x => if (f x).1 = (f d).1 then u x else x) = L := by
       refine (List.map_congr_left fun x hx => ?_).trans (List.map_id' L)
       rw [if_neg fun e => n1 (by rw [← e]; exact List.mem_map_of_mem (f := fun d => (f d).1) hx)]
     rw [hrest]
     congr 1
     exact Prod.ext hk.symm rfl
   · have hne : ¬ (f e).1 = (f d).1 := fun e2 => n1 (by rw [e2]; exact List.mem_map_of_mem (f := fun d => (f d).1) h)
     rw [if_neg hne, if_neg hne, pset_mapE n2 h hk]
/-- An entry turned, by its address. -/
def eupd (l : List DEn) (a : Nat) (u : DEn → DEn) : List DEn := l.map fun x => if x.ad = a then u x else x
/-- A directory that nobody broke. -/
structure DOK (l : List DEn) : Prop where
 nms : (l.map (·.nm)).Nodup
 ads : (l.map (·.ad)).Nodup
 abs : (l.map (·.ab)).Nodup
 ok : ∀ e, e ∈ l → (0 ≤ e.s ∧ e.s ≤ 4096) ∧ (1 ≤ e.g ∧ e.g ≤ 64) ∧ KNd e.es ∧ e.nm.length ≤ 64
 len : l.length ≤ 8
theorem nodup_inj {α β : Type} {f : α → β} : ∀ {l : List α}, (l.map f).Nodup → ∀ {p q : α}, p ∈ l → q ∈ l → f p = f q → p = q
 | [], _, _, _, h, _, _ => by cases h
 | a :: l, h, p, q, hp, hq, e => by
   rw [List.map_cons, List.nodup_cons] at h
   rcases List.mem_cons.1 hp with hp | hp <;> rcases List.mem_cons.1 hq with hq | hq
   · rw [hp, hq]
   · exact absurd (by rw [← hp, e]; exact List.mem_map_of_mem hq) h.1
   · exact absurd (by rw [← hq, ← e]; exact List.mem_map_of_mem hp) h.1
   · exact nodup_inj h.2 hp hq e
theorem DOK.D {l : List DEn} (h : DOK l) {e : DEn} (he : e ∈ l) : pget (dD l) e.ad = some (enO e.nm e.on e.us e.ab) := pget_mapE (f := fD) h.ads he
theorem DOK.M {l : List DEn} (h : DOK l) {e : DEn} (he : e ∈ l) : pget (dM l) e.ab = some (bzO e.s e.g e.es) := pget_mapE (f := fM) h.abs he
theorem eupd_M {l : List DEn} (h : DOK l) {e : DEn} (he : e ∈ l) {u : DEn → DEn} (h2 : (u e).ab = e.ab) : pset (dM l) e.ab (bzO (u e).s (u e).g (u e).es) = dM (eupd l e.ad u) := by
 refine (pset_mapE (f := fM) (u := u) h.abs he h2).trans ?_
 unfold dM eupd
 congr 1
 refine List.map_congr_left fun x hx => ?_
 by_cases hc : x.ad = e.ad
 · have := nodup_inj h.ads hx he hc
   subst this
   rw [if_pos rfl, if_pos rfl]
 · rw [if_neg hc, if_neg fun e2 => hc (by rw [nodup_inj h.abs hx he e2])]
/-! ### contracts on the bits of the pool -/
theorem bzPool {f : FuncId} {args : List SV} {res : SV} {s g s' g' : Int} {es es' : List (El uI × El uI)} {M : List (Nat × Ob)} {b : Nat} (h : Fn Tryz.prog f (vP 1001 :: args) (bzB s g es) [] res (bzB s' g' es')) (hM : pget M b = some (bzO s g es))
   (h1 : closeIn 1001 [1002] (vP 1001 :: args) (bzB s g es) [] [] [] = true) (h2 : closeOut 1001 (hidOf [1002] [] []) res (bzB s' g' es') [] = true) (h3 : (args.all fun v => !v.has 1001) = true) (h4 : (!res.has 1001) = true) :
   Fn Tryz.prog f (vAd b :: args) [(1004, .obj (.pool M))] [] res [(1004, .obj (.pool (pset M b (bzO s' g' es'))))] := by
 have hc : Fn Tryz.prog f (vP 1001 :: args) [(1001, .obj (bzO s g es))] [] res [(1001, .obj (bzO s' g' es'))] := Fn.close (Bl := bzB s g es) (Bl' := bzB s' g' es') (Bi := []) (Bo := []) [1002] (by simpa using h) (fun _ _ _ _ h => h) (fun _ _ _ _ h => h) h1 h2
 exact (FnX.pool (c := 1001) (q := 1004) (b := b) (args := args) (Bi := []) (nw := []) (X := Unit) (res := fun _ => res) (Bo := fun _ => []) (o := bzO s g es) (o' := fun _ => bzO s' g' es') (L := M) hc.x hM h3 ⟨rfl, rfl⟩ rfl (fun _ => h4)).fn
/-! ### New, Names -/
theorem dnew_fn : Fn Tryz.prog 73 [] [] [1001, 1002, 1003, 1004] (vP 1001) (dirB []) := by
 refine Fn.of tblOK [] _ _ _ _ _ Tryz.func73 rfl rfl (by kernel_rfl) (by kernel_rfl) rfl (drawOK tblOK) rfl ?_
 refine ⟨rfl, ?_⟩
 refine ⟨rfl, ?_⟩
 exact ⟨_, _, _, Le.trans (Le.ren 3 1001 rfl) (Le.trans (Le.ren 1 1002 rfl) (Le.trans (Le.emp 1003 rfl) (Le.emp 1004 rfl))), rfl, rfl, ⟨rfl, rfl, rfl, rfl, trivial⟩, rfl⟩
theorem mkeys_dE (l : List DEn) : mkeys (dE l) = l.map (·.nm) := by
 unfold mkeys dE
 rw [List.map_map]
 rfl
def dNms (l : List DEn) : List (List UInt8) := keysS (dE l)
theorem dNms_len (l : List DEn) : (dNms l).length = l.length := by
 unfold dNms keysS
 rw [List.length_mergeSort, mkeys_dE, List.length_map]
theorem dnames_fn {l : List DEn} (h : DOK l) : Fn Tryz.prog 261 [vP 1001] (dirB l) [] (vL .str (dNms l)) (dirB l) := by
 have hk : (mkeys (dE l)).Nodup := by rw [mkeys_dE]; exact h.nms
 have hm : ∀ s ∈ mkeys (dE l), s.length ≤ maxLen := fun s hs => by
   rw [mkeys_dE] at hs
   obtain ⟨d, hd, rfl⟩ := List.mem_map.1 hs
   exact Nat.le_trans (h.ok d hd).2.2.2 (by decide)
 have hs : (dE l).length ≤ 4294967296 := by unfold dE; rw [List.length_map]; have := h.len; omega
 refine Fn.of tblOK [] _ _ _ _ _ Tryz.func261 rfl rfl (by kernel_rfl) (by kernel_rfl) rfl (drawOK tblOK) rfl ?_
 refine ⟨_, _, _, _, Fn.ren [(1001, 1002), (2001, 5001)] (mapsKeysE_fn (dE l)), ⟨rfl, trivial⟩, rfl, ?_⟩
 refine ⟨_, _, _, _, Fn.ren [(1001, 1002), (2001, 5001)] (sortedKeysE_fn (dE l) hk hm hs), ⟨rfl, rfl, trivial⟩, rfl, ?_⟩
 exact ⟨_, _, _, Le.refl _ _, rfl, rfl, ⟨rfl, rfl, rfl, rfl, trivial⟩, rfl⟩
/-! ### the closures -/
theorem infBool : (Tryz.prog.info? 4).map (·.size) = some 1 := by kernel_rfl
theorem infBz : (Tryz.prog.info? 135).map (·.size) = some 1 := by kernel_rfl
end Go.Proofs.YtojaemgabaehdaaGreat
/-!
  A new object goes into a pool, its address is told; a struct is read by its address; bits, copied.
-/
namespace Go.Proofs.YtojaemgabaehdaaGreat
set_option linter.unusedVariables false
set_option linter.unusedSimpArgs false
set_option maxRecDepth 10000
open Go.RowKit Go.Proofs
section
variable {P : Program} {ids : List Nat} {K : KL} {B : BL}
theorem opOK_loadAgg {o : Oper} {T : TypeId} {x : Operand} {q b : Nat} {L : List (Nat × Ob)} {l : List S1} {h : ∀ c, (Ch.cells l).has c = false} {d : TypeDesc} {i : TypeInfo} (ho : o.op = .load T x) (hT : P.underlying T = some d) (hrow : d.isRow = true) (hi : P.info? T = some i) (hz : i.size = l.length) (hx : opv K x = .c (.one (.d (.adr (some b)))))
   (hq : lookB B q = some (.obj (.pool L))) (hL : pget L b = some (Ob.ch (.cells l) h)) (N : Nat) : OpOK P N ids o K B (.c (.agg l)) ⟨[q], [], []⟩ := by
 have hm : x ∈ o.op.operands := by rw [ho]; simp [Op.operands]
 refine OpOK.val fun K' B' g1 g2 C ρ F a w hM hS => ?_
 have hP : poolR (Imm C B' F w) w L (F q) := hM.holds q _ ((g2 q (by simp)).trans hq)
 have hv : a.eval x = .pointer (some ⟨b, 0, none⟩) := hS.ev ((g1 x hm).trans hx)
 obtain ⟨F1, F2, p, k1, k2, k3, k4, k5⟩ := hP.out hL
 obtain ⟨h1, vs, T', h2, h3⟩ := k4
 rw [k3] at h2
 refine ⟨.agg (List.toArray vs), exec_loadn (cs := vs) ho hv hT hrow hi (by rw [DenL.length _ _ h3]; exact hz) (fun j v hj => by rw [Nat.zero_add]; exact cell_of h2 hj), vs, rfl, DenL.mono (Ext.refl _ _) _ _ (fun c hc => by
   have h0 : hasL c l = false := h c
   rw [h0] at hc
   cases hc) h3⟩
end
@[reducible] def bzS (c d : Nat) (s g : Int) (es : List (El uI × El uI)) : BL := [(c, .cells [.d (.int .i64 s), .d (.int .i64 g), .mp d]), (d, .map uI uI es)]
theorem bzcopyO (s g : Int) (es : List (El uI × El uI)) : Fn Tryz.prog 163 [vP 3001] (bzS 3001 3002 s g es) [1001] (vP 1001) (bzS 3001 3002 s g es ++ [(1001, .obj (bzO s g es))]) := by
 refine Fn.of tblOK [] _ _ _ _ _ Tryz.func163 rfl rfl (by kernel_rfl) (by kernel_rfl) rfl (drawOK tblOK) rfl ?_
 refine ⟨_, _, _, _, Fn.ren [(1001, 3002), (2001, 1002)] (mapsCloneB_fn es), ⟨rfl, trivial⟩, rfl, ?_⟩
 refine ⟨rfl, ?_⟩
 refine ⟨indep_of (by kernel_rfl), ?_⟩
 exact ⟨_, _, _, Le.trans (Le.ren 17 1001 rfl) (Le.close 1001 (bzB s g es) ⟨rfl, rfl, trivial⟩ rfl fun _ _ _ _ h => h), rfl, rfl, ⟨rfl, rfl, rfl, trivial⟩, rfl⟩
/-- A copy of one of the pool. -/
theorem bzcopyG {s g : Int} {es : List (El uI × El uI)} {M : List (Nat × Ob)} {b : Nat} (hM : pget M b = some (bzO s g es)) : Fn Tryz.prog 163 [vAd b] [(1004, .obj (.pool M))] [5001, 5002] (vP 5001) [(1004, .obj (.pool M)), (5001, .cells [.d (.int .i64 s), .d (.int .i64 g), .mp 5002]), (5002, .map uI uI es)] := by
 have h0 := Fn.ren [(2001, 5001), (2002, 5002)] (bzcopy_fn s g es)
 have hc : Fn Tryz.prog 163 [vP 1001] [(1001, .obj (bzO s g es))] [5001, 5002] (vP 5001) ((1001, .obj (bzO s g es)) :: bzS 5001 5002 s g es) := Fn.close (Bl := bzB s g es) (Bl' := bzB s g es) (Bi := []) (Bo := bzS 5001 5002 s g es) [1002] h0 (fun _ _ _ _ h => h) (fun _ _ _ _ h => h) rfl rfl
 have := (FnX.pool (c := 1001) (q := 1004) (b := b) (args := []) (Bi := []) (nw := [5001, 5002]) (X := Unit) (res := fun _ => vP 5001) (Bo := fun _ => bzS 5001 5002 s g es) (o := bzO s g es) (o' := fun _ => bzO s g es) (L := M) hc.x hM rfl ⟨rfl, rfl⟩ rfl (fun _ => rfl)).fn
 rw [pset_self hM] at this
 exact this
end Go.Proofs.YtojaemgabaehdaaGreat
/-!
  Maps from keys to objects, as one object.
-/
namespace Go.Proofs.YtojaemgabaehdaaGreat
set_option linter.unusedVariables false
set_option linter.unusedSimpArgs false
open Go.RowKit
@[reducible] def adrE (b : Nat) : El .adr := (some b : Option Nat)
section
variable {P : Program} {ids : List Nat} {K : KL} {B : BL}
end
end Go.Proofs.YtojaemgabaehdaaGreat
/-!
  A new entry with an object of its own goes into a map, in whatever order; the map is laid open behind it. Directories: Add.
-/
namespace Go.Proofs.YtojaemgabaehdaaGreat
set_option linter.unusedVariables false
set_option linter.unusedSimpArgs false
set_option maxRecDepth 10000
open Go.RowKit Go.Proofs
/-- One that tells where another one lies, and that. -/
def pairG (oc : Nat → Ob) (ob : Ob) : Ob where
 R := fun I F w p => ∃ (F1 F2 : Nat → Prop) (q : Pl), (∀ x, F x ↔ F1 x ∨ F2 x) ∧ (∀ x, F1 x → ¬ F2 x) ∧ (oc q.blk).R I F1 w p ∧ ob.R I F2 w q
 stable := fun I F w I' w' p ⟨F1, F2, q, h1, h2, h3, h4⟩ he hF hz => ⟨F1, F2, q, h1, h2, (oc q.blk).stable _ _ _ _ _ _ h3 he (fun b hb => hF b ((h1 b).2 (.inl hb))) hz, ob.stable _ _ _ _ _ _ h4 he (fun b hb => hF b ((h1 b).2 (.inr hb))) hz⟩
def insR (ku : U) (es : List (El ku × El .adr)) (key : El ku) (o : Ob) (I F : Nat → Prop) (w : World) (p : Pl) : Prop :=
 ∃ (G : Nat → Prop) (q : Pl), (∀ x, F x ↔ x = p.blk ∨ G x) ∧ ¬ G p.blk ∧ (∃ ents clock, w.heap[p.blk]? = some (.map (List.toArray ents) clock) ∧ MapU I w ku .adr (mput (ku := ku) (vu := .adr) es key (adrE q.blk)) ents ∧ Births ents clock) ∧ o.R I G w q
/-- A map of addresses, and what lies at the one that was put in last. -/
def insO (ku : U) (es : List (El ku × El .adr)) (key : El ku) (o : Ob) : Ob where
 R := insR ku es key o
 stable := fun I F w I' w' p ⟨G, q, h1, h2, ⟨ents, clock, h4, h5, h6⟩, h7⟩ he hF hz => ⟨G, q, h1, h2, ⟨ents, clock, (hF _ ((h1 _).2 (.inl rfl))).trans h4, h5.mono he, h6⟩, o.stable _ _ _ _ _ _ h7 he (fun b hb => hF b ((h1 b).2 (.inr hb))) hz⟩
section
variable {P : Program} {ids : List Nat} {K : KL} {B : BL}
theorem Le.asCh (c : Nat) {ch : Ch} (h : ∀ c, ch.has c = false) (hc : lookB B c = some ch) : Le ids K B K ((c, .obj (Ob.ch ch h)) :: B) := by
 rintro N C a w ⟨hn, hd, ρ, F, hM, hS⟩
 obtain ⟨hM', hE⟩ := hM.turn (w' := w) (ch := .obj (Ob.ch ch h)) hc (Fr.refl _ _) fun I hI => Ob.ch_of h (Holds.stable (ρ' := ρ) hI (fun _ _ => rfl) (Nat.le_refl _) ch (fun _ _ => rfl) (hM.holds c _ hc))
 exact ⟨hn, hd, ρ, F, hM', hS.mono hE fun _ _ _ => rfl⟩
theorem opOK_putIns {o : Oper} {T kt et : TypeId} {x i v : Operand} {c d e : Nat} (ho : o.op = .mapUpdate T x i v) (hT : P.underlying T = some (.map kt et)) {dk : TypeDesc} (hkt : P.underlying kt = some dk) {ku : U} (hd : keyD ku dk = true)
   (hx : opv K x = .c (.one (.mp c))) {key : El ku} (hk : keyS ku (opv K i) = some key) (hv : opv K v = .c (.one (.ptr d 0))) {es : List (El ku × El .adr)} {hh : ∀ c, (Ch.map ku .adr es).has c = false} {l : List S1} {oc : Nat → Ob} {ob : Ob}
   (hc : lookB B c = some (.obj (Ob.ch (.map ku .adr es) hh))) (hd2 : lookB B d = some (.cells l)) (he2 : lookB B e = some (.obj ob)) (hne : c ≠ d) (hne2 : c ≠ e) (hne3 : d ≠ e)
   (hoc : ∀ (ρ : Nat → Pl) (I F : Nat → Prop) (w : World) (p : Pl), Holds ρ I F w p (.cells l) → (oc (ρ e).blk).R I F w p) (N : Nat) : OpOK P N ids o K B .undef ⟨[c, d, e], [], [(d, none), (e, none), (c, some (.obj (insO ku es key (pairG oc ob))))]⟩ := by
 have m1 : x ∈ o.op.operands := by rw [ho]; simp [Op.operands]
 have m2 : i ∈ o.op.operands := by rw [ho]; simp [Op.operands]
 have m3 : v ∈ o.op.operands := by rw [ho]; simp [Op.operands]
 rintro K' B' g1 g2 - C a w ⟨hn, hdf, ρ, F, hM, hS⟩ hlt Kn Q hK
 have hc' := (g2 c (by simp)).trans hc
 have hd' := (g2 d (by simp)).trans hd2
 have he' := (g2 e (by simp)).trans he2
 obtain ⟨hFc, ents, clock, h4, h5, h6⟩ : Holds (fun _ => ρ c) (Imm C B' F w) (F c) w (ρ c) (.map ku .adr es) := hM.holds c _ hc'
 have hCd := hM.holds d _ hd'
 have hOe : ob.R (Imm C B' F w) (F e) w (ρ e) := hM.holds e _ he'
 have hde : ∀ y, F d y → ¬ F e y := fun y hy hy' => hM.disj d e _ _ y hd' he' hne3 hy hy'
 have hO : (pairG oc ob).R (Imm C B' F w) (fun y => F d y ∨ F e y) w (ρ d) := ⟨F d, F e, ρ e, fun x => Iff.rfl, hde, hoc ρ _ _ _ _ hCd, hOe⟩
 have e1 := hS.mp ((g1 x m1).trans hx)
 have e2 : a.eval i = keyV ku key := keyS_den hk (hS.ev (g1 i m2))
 have e3 : a.eval v = .pointer (some ⟨(ρ d).blk, 0, none⟩) := hS.ev ((g1 v m3).trans hv)
 have e4 : DenE (Imm C B' F w) w .adr (adrE (ρ d).blk) (a.eval v) := by
   rw [e3]
   exact ⟨rfl, ⟨fun _ => rfl, fun h => by cases h⟩, rfl⟩
 obtain ⟨es', clock', hr, hm', hB'⟩ := update_run (P := P) hT hkt hd h4 h5 h6 key e4
 have hdj : ∀ y, (F d y ∨ F e y) → ¬ F c y := fun y hy hy' => hy.elim (fun hy => hM.disj d c _ _ y hd' hc' (Ne.symm hne) hy hy') (fun hy => hM.disj e c _ _ y he' hc' (Ne.symm hne2) hy hy')
 have hlt2 := (Array.getElem?_eq_some_iff.1 h4).1
 have hfrB : ∀ y, y ≠ (ρ c).blk → ({ w with heap := w.heap.setIfInBounds (ρ c).blk (.map (List.toArray es') clock') } : World).heap[y]? = w.heap[y]? := fun y hy => Array.getElem?_setIfInBounds_ne (Ne.symm hy)
 unfold Oper.wp
 have hx : (execOp a.eval o).run P w = .ok .skip { w with heap := w.heap.setIfInBounds (ρ c).blk (.map (List.toArray es') clock') } := by simp only [execOp, ho, Sem.run_bind, e1, e2, hr, Result.andThen_ok, Sem.run_pure]
 rw [hx, Oper.upon_skip]
 obtain ⟨hM', hE⟩ := hM.step (B' := (c, .obj (insO ku es key (pairG oc ob))) :: dropB (dropB B' d) e) (ρ' := ρ) (F' := upd F c (fun y => F c y ∨ (F d y ∨ F e y))) (w' := { w with heap := w.heap.setIfInBounds (ρ c).blk (.map (List.toArray es') clock') }) (fun j => j = d ∨ j = e ∨ j = c) (fun _ => False)
   ((map_fr (S := F c) ((hFc _).2 rfl)).mono fun y _ hy => ⟨c, _, hc', .inr (.inr rfl), hy⟩)
   (fun j ch hj hm => by
     rw [lookB_cons, if_neg (fun e => hm (.inr (.inr e.symm))), lookB_dropB, if_neg (fun e => hm (.inr (.inl e.symm))), lookB_dropB, if_neg (fun e => hm (.inl e.symm))] at hj
     exact hj)
   (fun _ _ => rfl) (fun j hm => upd_other _ _ (fun e => hm (.inr (.inr e)))) (fun _ _ h => h) (fun _ h => h.elim) (fun _ _ _ _ _ _ h => h)
   (fun j ch hj hm hE => by
     rw [lookB_cons] at hj
     split at hj
     · rename_i e
       subst e
       injection hj with hj
       subst hj
       rw [upd_same]
       have hdc : ∀ y, (F d y ∨ F e y) → y ≠ (ρ c).blk := fun y hy e => hdj y hy (e ▸ (hFc _).2 rfl)
       refine ⟨fun y => F d y ∨ F e y, ρ d, fun y => ?_, fun h => hdc _ h rfl, ⟨es', clock', by simp [hlt2], hm'.mono hE, hB'⟩, (pairG oc ob).stable _ _ _ _ _ _ hO hE (fun y hy => hfrB y (hdc y hy)) (by simp)⟩
       show (F c y ∨ (F d y ∨ F e y)) ↔ (y = (ρ c).blk ∨ (F d y ∨ F e y))
       rw [hFc]
     · rename_i e0
       rcases hm with rfl | rfl | rfl
       · rw [lookB_dropB] at hj
         split at hj
         · cases hj
         · rw [lookB_dropB, if_pos rfl] at hj; cases hj
       · rw [lookB_dropB, if_pos rfl] at hj; cases hj
       · exact absurd rfl e0)
   (fun j ch hj hm y hy => by
     rw [lookB_cons] at hj
     split at hj
     · rename_i e0
       subst e0
       rw [upd_same] at hy
       rcases hy with hy | hy | hy
       · exact ⟨by simpa using (hM.own c _ hc' y hy).1, .inl ⟨c, _, hc', .inr (.inr rfl), hy⟩⟩
       · exact ⟨by simpa using (hM.own d _ hd' y hy).1, .inl ⟨d, _, hd', .inl rfl, hy⟩⟩
       · exact ⟨by simpa using (hM.own e _ he' y hy).1, .inl ⟨e, _, he', .inr (.inl rfl), hy⟩⟩
     · rename_i e0
       rcases hm with rfl | rfl | rfl
       · rw [lookB_dropB] at hj
         split at hj
         · cases hj
         · rw [lookB_dropB, if_pos rfl] at hj; cases hj
       · rw [lookB_dropB, if_pos rfl] at hj; cases hj
       · exact absurd rfl e0)
   (fun j j' ch ch' y hj hj' hm hm' hnej => by
     have key : ∀ j ch, lookB ((c, Ch.obj (insO ku es key (pairG oc ob))) :: dropB (dropB B' d) e) j = some ch → (j = d ∨ j = e ∨ j = c) → j = c := fun j ch hj hm => by
       rcases hm with rfl | rfl | rfl
       · rw [lookB_cons, if_neg hne, lookB_dropB] at hj
         split at hj
         · cases hj
         · rw [lookB_dropB, if_pos rfl] at hj; cases hj
       · rw [lookB_cons, if_neg hne2, lookB_dropB, if_pos rfl] at hj; cases hj
       · rfl
     exact absurd ((key j ch hj hm).trans (key j' ch' hj' hm').symm) hnej)
 exact hK _ _ ⟨put_size.trans hn, put_defers.trans hdf, ρ, _, hM', (hS.mono hE fun _ _ _ => rfl).putO (fun e he => by rw [hn]; exact hlt e he) rfl⟩
theorem LeX.openIns (c d : Nat) {ku : U} {es : List (El ku × El .adr)} {key : El ku} {o : Ob} (hc : lookB B c = some (.obj (insO ku es key o))) (hd : freshB ids K B d = true) : LeX ids K B (X := Nat) (fun _ => K) (fun ad => (d, .obj (o.at ad)) :: (c, .map ku .adr (mput (ku := ku) (vu := .adr) es key (adrE ad))) :: B) := by
 rintro N C a w ⟨hn, hdf, ρ, F, hM, hS⟩
 obtain ⟨G, q, h1, h2, ⟨ents, clock, h4, h5, h6⟩, h7⟩ : insR ku es key o (Imm C B F w) (F c) w (ρ c) := hM.holds c _ hc
 obtain ⟨f1, f2, f3, f4⟩ := fresh_of hd
 obtain ⟨hM', hE⟩ := hM.split (K := K) (ch1 := .map ku .adr (mput (ku := ku) (vu := .adr) es key (adrE q.blk))) (ch2 := .obj (o.at q.blk)) hc hd q (fun x => x = (ρ c).blk) G (fun b hb => (h1 b).2 (.inl hb)) (fun b hb => (h1 b).2 (.inr hb)) (fun b hb hG => h2 (hb ▸ hG))
   (fun I hI => ⟨fun b => Iff.rfl, ents, clock, h4, h5.mono hI, h6⟩) (fun I hI => by
     refine ⟨rfl, ?_⟩
     exact o.stable _ _ _ _ _ _ h7 hI (fun _ _ => rfl) (Nat.le_refl _))
 exact ⟨q.blk, hn, hdf, _, _, hM', hS.mono hE fun s j hj => upd_other _ _ (fun e' => by subst e'; rw [f1 s] at hj; cases hj)⟩
theorem LeX.openPair (d e : Nat) {oc : Nat → Ob} {ob : Ob} {ad : Nat} (hc : lookB B d = some (.obj ((pairG oc ob).at ad))) (he : freshB ids K B e = true) : LeX ids K B (X := Nat) (fun _ => K) (fun ab => (e, .obj (ob.at ab)) :: (d, .obj ((oc ab).at ad)) :: B) := by
 rintro N C a w ⟨hn, hdf, ρ, F, hM, hS⟩
 obtain ⟨hb, F1, F2, q, h1, h2, h3, h4⟩ : ((pairG oc ob).at ad).R (Imm C B F w) (F d) w (ρ d) := hM.holds d _ hc
 obtain ⟨f1, f2, f3, f4⟩ := fresh_of he
 obtain ⟨hM', hE⟩ := hM.split (K := K) (ch1 := .obj ((oc q.blk).at ad)) (ch2 := .obj (ob.at q.blk)) hc he q F1 F2 (fun b hb => (h1 b).2 (.inl hb)) (fun b hb => (h1 b).2 (.inr hb)) h2
   (fun I hI => ⟨hb, (oc q.blk).stable _ _ _ _ _ _ h3 hI (fun _ _ => rfl) (Nat.le_refl _)⟩) (fun I hI => ⟨rfl, ob.stable _ _ _ _ _ _ h4 hI (fun _ _ => rfl) (Nat.le_refl _)⟩)
 exact ⟨q.blk, hn, hdf, _, _, hM', hS.mono hE fun s j hj => upd_other _ _ (fun e' => by subst e'; rw [f1 s] at hj; cases hj)⟩
end
/-! ### Add -/
theorem enO_anch {nm : List UInt8} {on us : Bool} {ab : Nat} : (enO nm on us ab).anch := fun I F w p h => (h.1 _).2 rfl
theorem bzO_anch {s g : Int} {es : List (El uI × El uI)} : (bzO s g es).anch := by
 rintro I F w p ⟨ρ, G, h1, h2, h3, h4⟩
 obtain ⟨hF, _⟩ := h2 1001 _ rfl
 exact (h4 _).2 ⟨1001, _, rfl, (hF _).2 (by rw [h1])⟩
theorem dD_anch (l : List DEn) : ∀ p ∈ dD l, p.2.anch := fun p hp => by
 obtain ⟨d, _, rfl⟩ := List.mem_map.1 hp
 exact enO_anch
theorem dM_anch (l : List DEn) : ∀ p ∈ dM l, p.2.anch := fun p hp => by
 obtain ⟨d, _, rfl⟩ := List.mem_map.1 hp
 exact bzO_anch
theorem mput_newE (nm : List UInt8) (x : El .adr) : ∀ L : List DEn, ek L nm = none → mput (ku := .str) (vu := .adr) (dE L) (nm : El .str) x = (dE L ++ [mkX nm x] : List (El .str × El .adr))
 | [], _ => rfl
 | d :: L, h => by
   rw [ek_cons] at h
   by_cases e : d.nm = nm
   · rw [if_pos e] at h; cases h
   · rw [if_neg e] at h
     have ih := mput_newE nm x L h
     show mput (ku := .str) (vu := .adr) (enE d :: dE L) (nm : El .str) x = _
     rw [show mput (ku := .str) (vu := .adr) (enE d :: dE L) (nm : El .str) x = (match eqKey .str (nm : El .str) (enE d).1 with | true => mkX nm x :: dE L | false => enE d :: mput (ku := .str) (vu := .adr) (dE L) (nm : El .str) x : List (El .str × El .adr)) from rfl]
     rw [show eqKey .str (nm : El .str) (enE d).1 = false from eqKey_ne (ku := .str) eqKey_str (fun h => e h.symm)]
     simp only
     rw [ih]
     rfl
theorem ek_none {l : List DEn} {nm : List UInt8} (h : ek l nm = none) : nm ∉ l.map (·.nm) := fun hx => by
 obtain ⟨d, hd, e⟩ := List.mem_map.1 hx
 have := List.find?_eq_none.1 h d hd
 exact this (by simpa using e)
theorem DOK.add {l : List DEn} (h : DOK l) {e : DEn} (h0 : ek l e.nm = none) (ha : e.ad ∉ l.map (·.ad)) (hb : e.ab ∉ l.map (·.ab)) (hok : (0 ≤ e.s ∧ e.s ≤ 4096) ∧ (1 ≤ e.g ∧ e.g ≤ 64) ∧ KNd e.es ∧ e.nm.length ≤ 64) (hl : l.length < 8) : DOK (l ++ [e]) := by
 have key : ∀ {α : Type} (f : DEn → α) (d : DEn), (l.map f).Nodup → f d ∉ l.map f → ((l ++ [d]).map f).Nodup := fun f d h1 h2 => by
   rw [List.map_append]
   refine List.nodup_append.2 ⟨h1, by simp, fun a ha b hb e => ?_⟩
   rw [List.map_cons, List.map_nil, List.mem_singleton] at hb
   exact h2 (by rw [← hb, ← e]; exact ha)
 refine ⟨key _ _ h.nms (ek_none h0), key _ _ h.ads ha, key _ _ h.abs hb, fun x hx => ?_, by rw [List.length_append]; show l.length + 1 ≤ 8; omega⟩
 rcases List.mem_append.1 hx with hx | hx
 · exact h.ok x hx
 · rw [List.mem_singleton.1 hx]; exact hok
theorem consE_perm {f : DEn → Nat × Ob} (L : List DEn) (d : DEn) : (f d :: L.map f).Perm ((L ++ [d]).map f) := by
 rw [List.map_append]
 exact (List.perm_append_comm (l₁ := [f d]) (l₂ := L.map f))
@[reducible] def daB (l : List DEn) (s g : Int) (es : List (El uI × El uI)) : BL := dirB l ++ bzS 2001 2002 s g es
theorem eg_none {l : List DEn} {nm : List UInt8} (h0 : ek l nm = none) : (mget (ku := .str) (vu := .adr) (dE l) nm).getD (dflt .adr) = none := by rw [eget, h0]; rfl
theorem eg_some {l : List DEn} {nm : List UInt8} {e : DEn} (h0 : ek l nm = some e) : (mget (ku := .str) (vu := .adr) (dE l) nm).getD (dflt .adr) = some e.ad := by rw [eget, h0]; rfl
set_option maxHeartbeats 1000000 in
theorem dadd_ok {l : List DEn} (h : DOK l) (nm : List UInt8) (hn : nm.length ≤ 4294967296) (hr : nameOK nm = true) (h0 : ek l nm = none) (h8 : l.length < 8) (s g : Int) (es : List (El uI × El uI)) (hok : (0 ≤ s ∧ s ≤ 4096) ∧ (1 ≤ g ∧ g ≤ 64) ∧ KNd es) :
   FnX Tryz.prog 79 [vP 1001, vS nm, vP 2001] (daB l s g es) [] (X := { p : Nat × Nat // DOK (l ++ [⟨nm, p.1, p.2, true, true, s, g, es⟩]) }) (fun _ => vI 0) (fun p => daB (l ++ [⟨nm, p.1.1, p.1.2, true, true, s, g, es⟩]) s g es) := by
 have hx := eg_none h0
 have hlen : (dE l).length = l.length := List.length_map ..
 refine FnX.of tblOK [5,6] _ _ _ _ _ Tryz.func79 rfl rfl (by kernel_rfl) (by kernel_rfl) rfl (drawOK tblOK) rfl ?_
 refine ⟨_, _, _, _, files_Right_fn _ hn, trivial, rfl, ?_⟩
 refine ⟨fun e1 => ?_, fun e1 => ?_⟩
 · rw [hr] at e1; cases e1
 refine ⟨fun b' e3 => ?_, fun e3 => ?_⟩
 · exfalso
   have : (mget (ku := .str) (vu := .adr) (dE l) nm).getD (dflt .adr) = some b' := e3
   rw [hx] at this
   cases this
 refine ⟨fun e4 => ?_, fun e4 => ?_⟩
 · exfalso
   have e4 : (8 : Int) ≤ ((dE l).length : Int) := of_decide_eq_true e4
   omega
 show TrQ _ _ _ _ _ _ _
 refine TrQ.le (Le.asCh 1002 (fun _ => rfl) rfl) ?_
 refine TrQ.go tblOK (drawOK tblOK) [6] (by kernel_rfl) (Le.refl _ _) ?_
 refine ⟨_, _, _, _, Fn.ren [(1001, 38), (3001, 2001), (3002, 2002)] (bzcopyO s g es), ⟨rfl, rfl, trivial⟩, rfl, ?_⟩
 refine ⟨rfl, ?_⟩
 refine ⟨_, _, fun N => opOK_putIns (c := 1002) (d := 40) (e := 38) (ku := .str) (key := nm) (oc := fun ab => enO nm true true ab) rfl Tryz.underlying262 (dk := .string) (by kernel_rfl) rfl rfl rfl rfl rfl rfl rfl (by decide) (by decide) (by decide) (fun ρ I F w p hh => ?hoc) N, rfl, ?_⟩
 case hoc =>
   obtain ⟨q1, vs, T, q2, v1, r1, e1, s1, v2, r2, e2, s2, v3, r3, e3, s3, v4, r4, e4, s4, e5⟩ := hh
   exact ⟨q1, vs, T, q2, v1, r1, e1, s1, v2, r2, e2, s2, v3, r3, e3, s3, v4, r4, e4, s4, e5⟩
 refine ⟨indep_of (by kernel_rfl), ?_⟩
 show TrQ _ _ _ _ _ _ _
 refine TrQ.leX (LeX.openIns 1002 5001 rfl rfl) fun ad => ?_
 refine TrQ.leX (LeX.openPair 5001 5002 rfl rfl) fun ab => ?_
 refine TrQ.le (K' := []) (B' := [(1001, .cells [.mp 1002]), (1002, .map .str .adr (mput (ku := .str) (vu := .adr) (dE l) nm (adrE ad))), (1003, .obj (.pool ((ad, enO nm true true ab) :: dD l))), (1004, .obj (.pool ((ab, bzO s g es) :: dM l))), (2001, .cells [.d (.int .i64 s), .d (.int .i64 g), .mp 2002]), (2002, .map uI uI es)]) (Le.trans (Le.put 1003 5001 (by decide) rfl rfl) (Le.trans (Le.put 1004 5002 (by decide) rfl rfl) (Le.sub trivial ⟨rfl, rfl, rfl, rfl, rfl, rfl, trivial⟩))) ?_
 refine TrQ.leX (LeX.poolNd 1003 (L := (ad, enO nm true true ab) :: dD l) (fun p hp => (List.mem_cons.1 hp).elim (fun e => by rw [e]; exact enO_anch) (dD_anch l p)) rfl) fun hnd1 => ?_
 refine TrQ.leX (LeX.poolNd 1004 (L := (ab, bzO s g es) :: dM l) (fun p hp => (List.mem_cons.1 hp).elim (fun e => by rw [e]; exact bzO_anch) (dM_anch l p)) rfl) fun hnd2 => ?_
 refine TrQ.go tblOK (drawOK tblOK) [] (by kernel_rfl) (Le.refl _ _) ?_
 have haN : ad ∉ l.map (·.ad) := fun hm => (List.nodup_cons.1 hnd1.down).1 (by show ad ∈ (dD l).map (·.1); unfold dD; rw [List.map_map]; exact hm)
 have hbN : ab ∉ l.map (·.ab) := fun hm => (List.nodup_cons.1 hnd2.down).1 (by show ab ∈ (dM l).map (·.1); unfold dM; rw [List.map_map]; exact hm)
 have hnl : nm.length ≤ 64 := by have := (nameOK_len hr).2; omega
 have eE : mput (ku := .str) (vu := .adr) (dE l) (nm : El .str) (adrE ad) = dE (l ++ [⟨nm, ad, ab, true, true, s, g, es⟩]) := (mput_newE nm _ l h0).trans (by unfold dE; rw [List.map_append]; rfl)
 exact ⟨⟨(ad, ab), h.add (e := ⟨nm, ad, ab, true, true, s, g, es⟩) h0 haN hbN ⟨hok.1, hok.2.1, hok.2.2, hnl⟩ h8⟩, _, _, _, Le.trans (Le.perm 1003 (consE_perm (f := fD) l ⟨nm, ad, ab, true, true, s, g, es⟩) rfl) (Le.perm 1004 (consE_perm (f := fM) l ⟨nm, ad, ab, true, true, s, g, es⟩) rfl), rfl, rfl, ⟨rfl, congrArg (fun e => some (Ch.map .str .adr e)) eE, rfl, rfl, rfl, rfl, trivial⟩, rfl⟩
end Go.Proofs.YtojaemgabaehdaaGreat
/-!
  Directories: of, Remove, Switch, Clear, Get, Merge.
-/
namespace Go.Proofs.YtojaemgabaehdaaGreat
set_option linter.unusedVariables false
set_option linter.unusedSimpArgs false
set_option maxRecDepth 10000
open Go.RowKit Go.Proofs
theorem dof_gt {l l' : List DEn} {nm : List UInt8} (on us : Bool) (s g : Int) (es : List (El uI × El uI)) {e : DEn} (he : ek l nm = some e) (hc : Fn Tryz.prog 305 [vAd e.ad, vP 3001] (dirB l ++ [(3001, .cells [.d (.str []), .d (.lit false), .d (.lit false), .raw (.pointer none)])]) [5001, 5002] vU (dirB l' ++ [(3001, .cells [.d (.str nm), .d (.bool on), .d (.bool us), .ptr 5001 0]), (5001, .cells [.d (.int .i64 s), .d (.int .i64 g), .mp 5002]), (5002, .map uI uI es)])) :
   Fn Tryz.prog 241 [vP 1001, vS nm, .c (.one (.clo 305 [.p 3001 0]))] (dirB l ++ [(3001, .cells [.d (.str []), .d (.lit false), .d (.lit false), .raw (.pointer none)])]) [5001, 5002] (vI 0) (dirB l' ++ [(3001, .cells [.d (.str nm), .d (.bool on), .d (.bool us), .ptr 5001 0]), (5001, .cells [.d (.int .i64 s), .d (.int .i64 g), .mp 5002]), (5002, .map uI uI es)]) := by
 have h' := eg_some he
 refine Fn.of tblOK [] _ _ _ _ _ Tryz.func241 rfl rfl (by kernel_rfl) (by kernel_rfl) rfl (drawOK tblOK) rfl ?_
 refine ⟨fun b' hb => ?_, fun hb => absurd (show (mget (ku := .str) (vu := .adr) (dE l) nm).getD (dflt .adr) = none from hb) (by rw [h']; intro h; cases h)⟩
 refine ⟨_, _, _, _, Fn.arg (args := [vAdrO ((mget (ku := .str) (vu := .adr) (dE l) nm).getD (dflt .adr)), vP 3001]) hc ⟨h', rfl, trivial⟩, ⟨rfl, rfl, rfl, rfl, rfl, trivial⟩, rfl, ?_⟩
 exact ⟨_, _, _, Le.refl _ _, rfl, rfl, ⟨rfl, rfl, rfl, rfl, rfl, rfl, rfl, trivial⟩, rfl⟩
/-! ### an entry turned, by its name -/
def enm (l : List DEn) (nm : List UInt8) (u : DEn → DEn) : List DEn := l.map fun x => if x.nm = nm then u x else x
theorem DOK.nil : DOK [] := ⟨List.Pairwise.nil, List.Pairwise.nil, List.Pairwise.nil, (fun e he => by cases he), Nat.zero_le _⟩
/-! ### Switch -/
/-! ### Clear -/
/-! ### Remove -/
def edel : List DEn → List UInt8 → List DEn
 | [], _ => []
 | d :: L, nm => if d.nm = nm then L else d :: edel L nm
theorem edel_sub (L : List DEn) (nm : List UInt8) : (edel L nm).Sublist L := by
 induction L with
 | nil => exact .slnil
 | cons e L ih =>
   unfold edel
   split
   · exact List.sublist_cons_self ..
   · exact ih.cons_cons _
theorem DOK.del {l : List DEn} (h : DOK l) (nm : List UInt8) : DOK (edel l nm) :=
 ⟨h.nms.sublist ((edel_sub l nm).map _), h.ads.sublist ((edel_sub l nm).map _), h.abs.sublist ((edel_sub l nm).map _), fun e he => h.ok e ((edel_sub l nm).subset he), Nat.le_trans (edel_sub l nm).length_le h.len⟩
/-! ### Get -/
theorem infEn : (Tryz.prog.info? 276).map (·.size) = some 4 := by kernel_rfl
@[reducible] def g4 (nm : List UInt8) (on us : Bool) : List S1 := [.d (.str nm), .d (.bool on), .d (.bool us), .ptr 5001 0]
theorem dget1_fn {l : List DEn} (h : DOK l) {e : DEn} (he : e ∈ l) : Fn Tryz.prog 305 [vAd e.ad, vP 3001] (dirB l ++ [(3001, .cells [.d (.str []), .d (.lit false), .d (.lit false), .raw (.pointer none)])]) [5001, 5002] vU (dirB l ++ [(3001, .cells (g4 e.nm e.on e.us)), (5001, .cells [.d (.int .i64 e.s), .d (.int .i64 e.g), .mp 5002]), (5002, .map uI uI e.es)]) := by
 obtain ⟨ib, ib1, ib2⟩ := inf_of infBz
 obtain ⟨ie, ie1, ie2⟩ := inf_of infEn
 have hD := h.D he
 have hM := h.M he
 have hc := bzcopyG hM
 refine Fn.of tblOK [] _ _ _ _ _ Tryz.func305 rfl rfl (by kernel_rfl) (by kernel_rfl) rfl (drawOK tblOK) rfl ?_
 refine ⟨_, _, fun N => opOK_nilAdr (b := e.ad) rfl rfl N, rfl, ?_⟩
 refine ⟨_, _, fun N => opOK_loadAgg (q := 1003) (l := enL e.nm e.on e.us e.ab) rfl Tryz.underlying276 rfl ie1 ie2 rfl rfl hD N, rfl, ?_⟩
 refine ⟨_, _, fun N => opOK_nilAdr (b := e.ad) rfl rfl N, rfl, ?_⟩
 refine ⟨_, _, fun N => opOK_fieldAdr rfl Tryz.underlying276 rfl rfl ib1 (by rw [ib2]; decide) rfl N, rfl, ?_⟩
 refine ⟨_, _, fun N => opOK_loadRaw (q := 1003) rfl Tryz.underlying135 rfl rfl rfl hD rfl N, rfl, ?_⟩
 refine ⟨_, _, _, _, hc, ⟨rfl, trivial⟩, rfl, ?_⟩
 exact ⟨_, _, _, Le.refl _ _, rfl, trivial, ⟨rfl, rfl, rfl, rfl, rfl, rfl, rfl, trivial⟩, rfl⟩
theorem dget_ok {l : List DEn} (h : DOK l) {nm : List UInt8} {e : DEn} (he : ek l nm = some e) : Fn Tryz.prog 252 [vP 1001, vS nm] (dirB l) [5001, 5002] (.tup [.agg (g4 e.nm e.on e.us), vErr 0]) (dirB l ++ [(5001, .cells [.d (.int .i64 e.s), .d (.int .i64 e.g), .mp 5002]), (5002, .map uI uI e.es)]) := by
 have hg := dget1_fn h (ek_get he).1
 rw [(ek_get he).2] at hg
 have hc := dof_gt e.on e.us e.s e.g e.es he hg
 rw [(ek_get he).2]
 refine Fn.of tblOK [] _ _ _ _ _ Tryz.func252 rfl rfl (by kernel_rfl) (by kernel_rfl) rfl (drawOK tblOK) rfl ?_
 refine ⟨rfl, rfl, ?_⟩
 refine ⟨_, _, _, _, Fn.ren [(3001, 6)] hc, ⟨rfl, rfl, rfl, rfl, rfl, trivial⟩, rfl, ?_⟩
 exact ⟨_, _, _, Le.refl _ _, rfl, ⟨⟨rfl, rfl, rfl, rfl, trivial⟩, rfl, trivial⟩, ⟨rfl, rfl, rfl, rfl, rfl, rfl, trivial⟩, rfl⟩
end Go.Proofs.YtojaemgabaehdaaGreat
/-!
  Directories: Write, Resize.
-/
namespace Go.Proofs.YtojaemgabaehdaaGreat
set_option linter.unusedVariables false
set_option linter.unusedSimpArgs false
set_option maxRecDepth 10000
open Go.RowKit Go.Proofs
/-- The entries of these addresses, turned. -/
def easU (u : DEn → DEn) (az : List Nat) (l : List DEn) : List DEn := l.map fun x => if x.ad ∈ az then u x else x
theorem easU_nil (u : DEn → DEn) (l : List DEn) : easU u [] l = l := by
 unfold easU
 refine (List.map_congr_left fun x _ => ?_).trans (List.map_id' l)
 rw [if_neg (by simp)]
theorem easU_all {u : DEn → DEn} {az : List Nat} {l : List DEn} (h : ∀ e, e ∈ l → e.ad ∈ az) : easU u az l = l.map u := by
 unfold easU
 exact List.map_congr_left fun x hx => if_pos (h x hx)
theorem easU_step {u : DEn → DEn} (hu : ∀ e, (u e).ad = e.ad) {az : List Nat} {a : Nat} (ha : a ∉ az) (l : List DEn) : eupd (easU u az l) a u = easU u (az ++ [a]) l := by
 unfold eupd easU
 rw [List.map_map]
 refine List.map_congr_left fun x _ => ?_
 show (if (if x.ad ∈ az then u x else x).ad = a then u (if x.ad ∈ az then u x else x) else (if x.ad ∈ az then u x else x)) = if x.ad ∈ az ++ [a] then u x else x
 by_cases h1 : x.ad ∈ az
 · have h2 : ¬ (u x).ad = a := by rw [hu]; exact fun e => ha (e ▸ h1)
   rw [if_pos h1, if_neg h2, if_pos (List.mem_append_left _ h1)]
 · rw [if_neg h1]
   by_cases h2 : x.ad = a
   · rw [if_pos h2, if_pos (by rw [h2]; simp)]
   · rw [if_neg h2, if_neg (by simp [h1, h2])]
structure UOK (u : DEn → DEn) : Prop where
 nm : ∀ e, (u e).nm = e.nm
 ad : ∀ e, (u e).ad = e.ad
 ab : ∀ e, (u e).ab = e.ab
 on : ∀ e, (u e).on = e.on
 us : ∀ e, (u e).us = e.us
 ok : ∀ e, (0 ≤ e.s ∧ e.s ≤ 4096) ∧ (1 ≤ e.g ∧ e.g ≤ 64) ∧ KNd e.es → (0 ≤ (u e).s ∧ (u e).s ≤ 4096) ∧ (1 ≤ (u e).g ∧ (u e).g ≤ 64) ∧ KNd (u e).es
theorem UOK.eas {u : DEn → DEn} (hu : UOK u) {l : List DEn} (h : DOK l) (az : List Nat) : DOK (easU u az l) := by
 have key : ∀ {β : Type} (f : DEn → β), (∀ e, f (u e) = f e) → (easU u az l).map f = l.map f := fun f hf => by
   unfold easU
   rw [List.map_map]
   refine List.map_congr_left fun x _ => ?_
   show f (if x.ad ∈ az then u x else x) = f x
   split
   · exact hf x
   · rfl
 refine ⟨by rw [key _ hu.nm]; exact h.nms, by rw [key _ hu.ad]; exact h.ads, by rw [key _ hu.ab]; exact h.abs, fun e he => ?_, by unfold easU; rw [List.length_map]; exact h.len⟩
 obtain ⟨x, hx, rfl⟩ := List.mem_map.1 he
 obtain ⟨k1, k2, k3, k4⟩ := h.ok x hx
 by_cases hc : x.ad ∈ az
 · rw [if_pos hc]
   obtain ⟨j1, j2, j3⟩ := hu.ok x ⟨k1, k2, k3⟩
   exact ⟨j1, j2, j3, by rw [hu.nm]; exact k4⟩
 · rw [if_neg hc]; exact ⟨k1, k2, k3, k4⟩
theorem UOK.E {u : DEn → DEn} (hu : UOK u) (az : List Nat) (l : List DEn) : dE (easU u az l) = dE l := by
 unfold dE easU
 rw [List.map_map]
 refine List.map_congr_left fun x _ => ?_
 show enE (if x.ad ∈ az then u x else x) = enE x
 split
 · unfold enE; rw [hu.nm, hu.ad]
 · rfl
theorem UOK.D {u : DEn → DEn} (hu : UOK u) (az : List Nat) (l : List DEn) : dD (easU u az l) = dD l := by
 unfold dD easU
 rw [List.map_map]
 refine List.map_congr_left fun x _ => ?_
 show fD (if x.ad ∈ az then u x else x) = fD x
 split
 · unfold fD; rw [hu.nm, hu.ad, hu.ab, hu.on, hu.us]
 · rfl
theorem UOK.M {u : DEn → DEn} (hu : UOK u) {l : List DEn} (h : DOK l) {az : List Nat} {e : DEn} (he : e ∈ l) (ha : e.ad ∉ az) : pset (dM (easU u az l)) e.ab (bzO (u e).s (u e).g (u e).es) = dM (easU u (az ++ [e.ad]) l) := by
 have hm : e ∈ easU u az l := List.mem_map.2 ⟨e, he, if_neg ha⟩
 rw [← easU_step hu.ad ha, ← eupd_M (hu.eas h az) hm (hu.ab e)]
theorem UOK.get {u : DEn → DEn} (hu : UOK u) {l : List DEn} (h : DOK l) {az : List Nat} {e : DEn} (he : e ∈ l) (ha : e.ad ∉ az) : pget (dM (easU u az l)) e.ab = some (bzO e.s e.g e.es) :=
 (hu.eas h az).M (List.mem_map.2 ⟨e, he, if_neg ha⟩)
theorem UOK.map {u : DEn → DEn} (hu : UOK u) {l : List DEn} (h : DOK l) : DOK (l.map u) := by
 have := hu.eas h (l.map (·.ad))
 rw [easU_all fun e he => List.mem_map_of_mem he] at this
 exact this
/-! ### the births -/
abbrev EnA := Nat × (El .str × El .adr)
def adO (p : EnA) : Option Nat := p.2.2
structure SeenA (l : List DEn) (lx : List EnA) (seen az : List Nat) : Prop where
 iff : ∀ p, p ∈ lx → ∀ a, adO p = some a → (p.1 ∈ seen ↔ a ∈ az)
theorem lx_ent {l : List DEn} {lx : List EnA} (hs : lx.map (·.2) = dE l) {p : EnA} (hp : p ∈ lx) : ∃ e, e ∈ l ∧ p.2 = enE e := by
 have : p.2 ∈ dE l := by rw [← hs]; exact List.mem_map_of_mem hp
 obtain ⟨e, he, e2⟩ := List.mem_map.1 this
 exact ⟨e, he, e2.symm⟩
theorem lx_ads {l : List DEn} (h : DOK l) {lx : List EnA} (hs : lx.map (·.2) = dE l) : (lx.map adO).Nodup := by
 have : lx.map adO = (l.map (·.ad)).map some := by
   have e : lx.map adO = (lx.map (·.2)).map (fun q : El .str × El .adr => (show Option Nat from q.2)) := by rw [List.map_map]; rfl
   rw [e, hs]
   unfold dE
   rw [List.map_map, List.map_map]
   rfl
 rw [this]
 exact List.Pairwise.map _ (fun a b hab e => hab (by injection e)) h.ads
theorem SeenA.nil (l : List DEn) (lx : List EnA) : SeenA l lx [] [] := ⟨fun _ _ _ _ => by simp⟩
theorem SeenA.step {l : List DEn} {lx : List EnA} {seen az : List Nat} (h : SeenA l lx seen az) (hb : (lx.map (·.1)).Nodup) (ha : (lx.map adO).Nodup) {p : EnA} (hp : p ∈ lx) {a : Nat} (e : adO p = some a) : SeenA l lx (seen ++ [p.1]) (az ++ [a]) := by
 refine ⟨fun q hq b hb' => ?_⟩
 have h1 := h.iff q hq b hb'
 have h2 : q.1 = p.1 ↔ b = a := ⟨fun e1 => by
   have := nodup_inj hb hq hp e1
   subst this
   rw [e] at hb'
   injection hb' with e3
   exact e3.symm, fun e1 => by
   have := nodup_inj ha hq hp (hb'.trans (by rw [e1, e]))
   rw [this]⟩
 simp only [List.mem_append, List.mem_singleton, h1, h2]
def unsA (seen : List Nat) (l : List EnA) : List EnA := l.filter fun p => !seen.contains p.1
theorem unsA_lt {seen : List Nat} {l : List EnA} {p : EnA} (hp : p ∈ l) (hn : p.1 ∉ seen) : (unsA (seen ++ [p.1]) l).length < (unsA seen l).length := by
 have e : unsA (seen ++ [p.1]) l = (unsA seen l).filter fun q => !decide (q.1 = p.1) := by
   unfold unsA
   rw [List.filter_filter]
   refine List.filter_congr fun q _ => ?_
   by_cases e : q.1 = p.1 <;> simp [e]
 rw [e]
 have hm : p ∈ unsA seen l := List.mem_filter.2 ⟨hp, by simp [hn]⟩
 exact List.length_filter_lt_length_iff_exists.2 ⟨p, hm, by simp⟩
@[reducible] def drB (it : Nat) (u : DEn → DEn) (l : List DEn) (b clock : Nat) (lx : List EnA) (seen az : List Nat) : BL := [(1001, .cells [.mp 1002]), (1002, .obj (.mapG b .str .adr lx clock)), (1003, .obj (.pool (dD l))), (1004, .obj (.pool (dM (easU u az l)))), (it, .obj (.iterG b clock seen clock))]
/-! ### Write -/
def wrE (fr lg : Int) (e : DEn) : DEn := { e with es := if e.on = true then bzSet e.s e.g e.es fr lg else e.es }
theorem wrE_ok (fr lg : Int) : UOK (wrE fr lg) := by
 refine ⟨fun _ => rfl, fun _ => rfl, fun _ => rfl, fun _ => rfl, fun _ => rfl, fun e h => ⟨h.1, h.2.1, ?_⟩⟩
 show KNd (if e.on = true then bzSet e.s e.g e.es fr lg else e.es)
 split
 · exact bzSet_nd h.2.2 fr lg
 · exact h.2.2
set_option maxHeartbeats 1000000 in
theorem dwrite_fn {l : List DEn} (h : DOK l) (fr lg : Int) : Fn Tryz.prog 81 [vP 1001, vI fr, vI lg] (dirB l) [] vU (dirB (l.map (wrE fr lg))) := by
 have hu := wrE_ok fr lg
 obtain ⟨ia, ia1, ia2⟩ := inf_of infBool
 obtain ⟨ib, ib1, ib2⟩ := inf_of infBz
 refine Fn.of tblOK [0] _ _ _ _ _ Tryz.func81 rfl rfl (by kernel_rfl) (by kernel_rfl) rfl (drawOK tblOK) rfl ?_
 show TrQ _ _ _ _ _ _ _
 refine TrQ.leX (LeX.nameMap 1002 rfl) fun x => ?_
 obtain ⟨b, lx, clock, hsnd, hrise, hlt⟩ := x
 have hb : (lx.map (·.1)).Nodup := hrise.imp fun h => by omega
 have ha := lx_ads h hsnd
 refine TrQ.go tblOK (drawOK tblOK) [] (by kernel_rfl) (Le.refl _ _) ?_
 refine ⟨_, _, fun N => opOK_range (d := 12) rfl Tryz.underlying262 rfl rfl N, rfl, ?_⟩
 show TrQ _ _ _ _ _ _ _
 refine TrQ.loop tblOK (drawOK tblOK) [1] (by kernel_rfl) (X := List Nat × List Nat) (fun _ => [(1, vI fr), (2, vI lg), (12, vP 12)]) (fun x => drB 12 (wrE fr lg) l b clock lx x.1 x.2) (fun x => SeenA l lx x.1 x.2) (fun x => (unsA x.1 lx).length) ([], []) (SeenA.nil l lx) ?_ ?_
 · exact Le.sub ⟨rfl, rfl, rfl, trivial⟩ ⟨rfl, rfl, rfl, (by show _ = some (Ch.obj (.pool (dM (easU (wrE fr lg) [] l)))); rw [easU_nil]; rfl), rfl, trivial⟩
 rintro ⟨seen, az⟩ hsa
 have hsa : SeenA l lx seen az := hsa
 show TrQ _ _ _ _ _ _ _
 refine TrQ.regionX tblOK (by kernel_rfl) ?_
 refine ⟨_, opS_next (c := 1002) (r := 12) rfl rfl rfl rfl (fun p hp => hlt _ (List.mem_map_of_mem hp)) (Nat.le_refl _), fun v e hv => ?_⟩
 rcases hv with ⟨p, hp, hs1, rfl, rfl⟩ | ⟨hall, rfl, rfl⟩
 · obtain ⟨e, he, hpe⟩ := lx_ent hsnd hp
   have hpa : adO p = some e.ad := by unfold adO; rw [hpe]
   have hna : e.ad ∉ az := fun hm => hs1 ((hsa.iff p hp e.ad hpa).2 hm)
   have hst := hsa.step hb ha hp hpa
   have hlt2 := unsA_lt hp hs1
   have hD := h.D he
   have hM := hu.get h he hna
   have hM2 := hu.M h he hna
   obtain ⟨k1, k2, k3, k4⟩ := h.ok e he
   have hset := bzPool (bzset_fn e.s e.g e.es fr lg k1 k2) hM rfl rfl rfl rfl
   have hc : (if e.on = true then bzSet e.s e.g e.es fr lg else e.es) = (wrE fr lg e).es := rfl
   have hx : p.2.2 = (some e.ad : Option Nat) := hpa
   refine ⟨_, _, fun N => opOK_entry (c := 1002) (r := 12) (p := p) rfl rfl rfl rfl hp N, rfl, ?_⟩
   refine ⟨_, _, fun N => opOK_nilAdr (b := e.ad) rfl (by exact adrV_eq hx) N, rfl, ?_⟩
   refine ⟨_, _, fun N => opOK_fieldAdr rfl Tryz.underlying276 rfl rfl ia1 (by rw [ia2]; decide) rfl N, rfl, ?_⟩
   refine ⟨_, _, fun N => opOK_loadRaw (q := 1003) rfl Tryz.underlying4 rfl rfl rfl hD rfl N, rfl, ?_⟩
   refine ⟨fun hon => ?_, fun hon => ?_⟩
   · have hon : e.on = true := hon
     rw [if_pos hon] at hc
     rw [hc] at hset
     change Fn _ _ _ _ _ _ [(1004, .obj (.pool (pset (dM (easU (wrE fr lg) az l)) e.ab (bzO (wrE fr lg e).s (wrE fr lg e).g (wrE fr lg e).es))))] at hset
     rw [hM2] at hset
     refine ⟨_, _, fun N => opOK_nilAdr (b := e.ad) rfl (by exact adrV_eq hx) N, rfl, ?_⟩
     refine ⟨_, _, fun N => opOK_fieldAdr rfl Tryz.underlying276 rfl rfl ib1 (by rw [ib2]; decide) rfl N, rfl, ?_⟩
     refine ⟨_, _, fun N => opOK_loadRaw (q := 1003) rfl Tryz.underlying135 rfl rfl rfl hD rfl N, rfl, ?_⟩
     refine ⟨_, _, _, _, hset, ⟨rfl, trivial⟩, rfl, ?_⟩
     exact ⟨(seen ++ [p.1], az ++ [e.ad]), hst, hlt2, Le.sub ⟨rfl, rfl, rfl, trivial⟩ ⟨rfl, rfl, rfl, rfl, rfl, trivial⟩⟩
   · have hon : e.on = false := hon
     rw [if_neg (by rw [hon]; decide)] at hc
     have e1 : bzO (wrE fr lg e).s (wrE fr lg e).g (wrE fr lg e).es = bzO e.s e.g e.es := by rw [← hc]; rfl
     rw [e1, pset_self hM] at hM2
     exact ⟨(seen ++ [p.1], az ++ [e.ad]), hst, hlt2, Le.sub ⟨rfl, rfl, rfl, trivial⟩ ⟨rfl, rfl, rfl, congrArg (fun z => some (Ch.obj (.pool z))) hM2, rfl, trivial⟩⟩
 · have hal : ∀ e, e ∈ l → e.ad ∈ az := fun e he => by
     have : enE e ∈ lx.map (·.2) := by rw [hsnd]; exact List.mem_map_of_mem he
     obtain ⟨p, hp, e2⟩ := List.mem_map.1 this
     exact (hsa.iff p hp e.ad (by unfold adO; rw [e2])).1 (hall p hp)
   have eA := easU_all (u := wrE fr lg) hal
   have eE : lx.map (·.2) = dE (l.map (wrE fr lg)) := by rw [hsnd, ← eA, hu.E]
   have eD : dD l = dD (l.map (wrE fr lg)) := by rw [← eA, hu.D]
   exact ⟨_, _, _, Le.mapOf 1002 rfl, rfl, trivial, ⟨rfl, congrArg (fun z => some (Ch.map .str .adr z)) eE, congrArg (fun z => some (Ch.obj (.pool z))) eD, congrArg (fun z => some (Ch.obj (.pool (dM z)))) eA, trivial⟩, rfl⟩
/-! ### Resize -/
end Go.Proofs.YtojaemgabaehdaaGreat
/-!
  Directories: Merge.
-/
namespace Go.Proofs.YtojaemgabaehdaaGreat
set_option linter.unusedVariables false
set_option linter.unusedSimpArgs false
set_option maxRecDepth 10000
open Go.RowKit Go.Proofs
theorem Fn.congrB {P : Program} {f : FuncId} {args : List SV} {Bi Bi' : BL} {nw : List Nat} {res : SV} {Bo Bo' : BL} (h : Fn P f args Bi nw res Bo) (h1 : ∀ c, lookB Bi' c = lookB Bi c) (h2 : ∀ c, lookB Bo' c = lookB Bo c) : Fn P f args Bi' nw res Bo' := by
 unfold Fn at h ⊢
 simpa only [h1, h2] using h
/-! ### bits of the pool, merged -/
/-! ### Merge -/
end Go.Proofs.YtojaemgabaehdaaGreat
/-!
  Export: part, extents, status, dirty; answers of any directory.
-/
namespace Go.Proofs.YtojaemgabaehdaaGreat
set_option linter.unusedVariables false
set_option linter.unusedSimpArgs false
set_option maxRecDepth 10000
open Go.RowKit Go.Proofs
/-! ### extents -/
@[reducible] def xtF (x : Xt) : List Fd := [(4, x.2.1), (1, x.2.2)]
def xtB1 (x : Xt) : List UInt8 := if fdOK (xtF x) = true then fdB (xtF x) else []
def xtsB (l : List Xt) : List UInt8 := l.flatMap xtB1
theorem xtF_W (x : Xt) : ∀ f, f ∈ xtF x → W f.1 := by
 intro f hf
 simp only [xtF, List.mem_cons, List.not_mem_nil, or_false] at hf
 unfold W
 rcases hf with rfl | rfl <;> simp
theorem xtB1_len (x : Xt) : (xtB1 x).length ≤ 5 := by
 unfold xtB1
 split
 · show (encR x.2.1.toNat 4 ++ (encR x.2.2.toNat 1 ++ [])).length ≤ 5
   rw [List.length_append, List.length_append, encR_length, encR_length]
   exact Nat.le_refl 5
 · exact Nat.zero_le _
theorem xtsB_len (l : List Xt) : (xtsB l).length ≤ 5 * l.length := by
 induction l with
 | nil => exact Nat.zero_le _
 | cons x l ih =>
   show (xtB1 x ++ xtsB l).length ≤ 5 * (l.length + 1)
   have := xtB1_len x
   rw [List.length_append]
   omega
theorem xtsB_step {l : List Xt} {k : Nat} (h : k < l.length) : xtsB (l.take (k + 1)) = xtsB (l.take k) ++ xtB1 l[k] := by
 unfold xtsB
 rw [← take_step h, List.flatMap_append]
 simp
@[reducible] def exsK (l : List Xt) (k : Nat) : KL := [(3, vOwn 5001), (8, vL uEx l), (9, vI (l.length : Nat)), (10, vI (k : Nat))]
@[reducible] def exsK2 (l : List Xt) (k : Nat) : KL := [(3, vOwn 27), (8, vL uEx l), (9, vI (l.length : Nat)), (10, vI (k : Nat))]
set_option maxHeartbeats 1000000 in
theorem exts_fn (l : List Xt) (hl : l.length ≤ 100000) : Fn Tryz.prog 343 [vL uEx l] [] [] (vL .u8 (xtsB l)) [] := by
 refine Fn.frz (d := 1001) (nw := []) (Bo := []) (e := 5) (u := .u8) (xs := xtsB l) ?_ rfl rfl
 refine Fn.of tblOK [6] _ _ _ _ _ Tryz.func343 rfl rfl (by kernel_rfl) (by kernel_rfl) rfl (drawOK tblOK) rfl ?_
 show TrQ _ _ _ _ _ _ _
 refine TrQ.loop tblOK (drawOK tblOK) [6] (by kernel_rfl) (X := Nat) (fun k => exsK l k) (fun k => byR 5001 (xtsB (l.take k))) (fun k => k ≤ l.length) (fun k => l.length - k) 0 (Nat.zero_le _) ?_ ?_
 · exact Le.trans (Le.nil 3 5001 5 .u8 rfl rfl) (Le.sub ⟨rfl, rfl, rfl, rfl, trivial⟩ ⟨rfl, trivial⟩)
 intro k hk
 have hk : k ≤ l.length := hk
 refine ⟨fun h => ?_, fun h => ?_⟩
 · have hk1 : k < l.length := by
     have h : decide ((k : Int) < ((l.length : Nat) : Int)) = true := h
     have := of_decide_eq_true h
     omega
   have hget : lget l k = some l[k] := List.getElem?_eq_getElem hk1
   have hst := xtsB_step hk1
   have hb := xtsB_len (l.take k)
   have hb2 : (l.take k).length ≤ 100000 := by rw [List.length_take]; omega
   have hp1 := fun (hf : fdOK (xtF l[k]) = true) => eput_fn (xtF l[k]) (xtF_W _) (by simp) hf
   have hp0 := fun (hf : fdOK (xtF l[k]) = false) => eput_no (xtF l[k]) (xtF_W _) (by simp) hf
   have hx : xtB1 l[k] = if fdOK (xtF l[k]) = true then fdB (xtF l[k]) else [] := rfl
   have hxl := xtB1_len l[k]
   generalize l[k] = x at *
   have m0 : (0 : Int) ≤ ((k : Nat) : Int) := by omega
   have m1 : (-9223372036854775808 : Int) ≤ ((k : Nat) : Int) + 1 ∧ ((k : Nat) : Int) + 1 ≤ 9223372036854775807 := by omega
   refine (Bool.eq_false_or_eq_true (fdOK (xtF x))).elim (fun hf => ?_) (fun hf => ?_)
   · have hp := hp1 hf
     rw [if_pos hf] at hx
     rw [hx] at hst hxl
     generalize fdB (xtF x) = y at *
     generalize xtsB (l.take k) = z at *
     have m2 : z.length + y.length ≤ 4294967296 := by omega
     refine ⟨m0, x, hget, rfl, ?_⟩
     refine ⟨_, _, _, _, Fn.ren [(1001, 5002)] hp, trivial, rfl, ?_⟩
     show TrQ _ _ _ _ _ _ _
     refine TrQ.go tblOK (drawOK tblOK) [] (by kernel_rfl) (Le.refl _ _) ?_
     refine ⟨m2, rfl, ?_⟩
     exact ⟨m1, k + 1, hk1, by show l.length - (k + 1) < l.length - k; omega, Le.trans (Le.sub (K' := exsK2 l (k + 1)) (B' := byR 27 (xtsB (l.take (k + 1)))) ⟨rfl, rfl, rfl, rfl, trivial⟩ ⟨congrArg (fun z => some (Ch.row 5 .u8 z)) hst.symm, trivial⟩) (Le.trans (Le.ren 27 5001 rfl) (Le.sub ⟨rfl, rfl, rfl, rfl, trivial⟩ ⟨rfl, trivial⟩))⟩
   · have hp := hp0 hf
     rw [if_neg (by rw [hf]; decide)] at hx
     rw [hx, List.append_nil] at hst
     generalize xtsB (l.take k) = z at *
     have m2 : z.length + 0 ≤ 4294967296 := by omega
     refine ⟨m0, x, hget, rfl, ?_⟩
     refine ⟨_, _, _, _, hp, trivial, rfl, ?_⟩
     show TrQ _ _ _ _ _ _ _
     refine TrQ.le (Le.sub (K' := (6, vL .u8 []) :: exsK l k) (B' := byR 5001 z) ⟨rfl, rfl, rfl, rfl, rfl, trivial⟩ ⟨rfl, trivial⟩) ?_
     refine TrQ.go tblOK (drawOK tblOK) [] (by kernel_rfl) (Le.refl _ _) ?_
     refine ⟨m2, rfl, ?_⟩
     exact ⟨m1, k + 1, hk1, by show l.length - (k + 1) < l.length - k; omega, Le.trans (Le.sub (K' := exsK2 l (k + 1)) (B' := byR 27 (xtsB (l.take (k + 1)))) ⟨rfl, rfl, rfl, rfl, trivial⟩ ⟨congrArg (fun z => some (Ch.row 5 .u8 z)) ((List.append_nil z).trans hst.symm), trivial⟩) (Le.trans (Le.ren 27 5001 rfl) (Le.sub ⟨rfl, rfl, rfl, rfl, trivial⟩ ⟨rfl, trivial⟩))⟩
 · have hk1 : k = l.length := by
     have h : decide ((k : Int) < ((l.length : Nat) : Int)) = false := h
     have := of_decide_eq_false h
     omega
   subst hk1
   exact ⟨_, _, _, Le.ren 5001 1001 rfl, rfl, rfl, ⟨congrArg (fun z => some (Ch.row 5 .u8 (xtsB z))) (List.take_length ..), trivial⟩, rfl⟩
/-! ### part -/
def prC (l : List Xt) (a n : Int) : List UInt8 × Int := if exCut l a n = [] then ([], 1) else (xtsB (exCut l a n), 0)
theorem prC_err {l : List Xt} {a n : Int} (h : (prC l a n).2 ≠ 0) : (prC l a n).1 = [] := by
 unfold prC at h ⊢
 split
 · rfl
 · rename_i h1
   rw [if_neg h1] at h
   exact absurd rfl h
theorem part_fn (l : List Xt) (r : Rq) (hl : l.length ≤ 100000) (hin : ∀ x, x ∈ l → -4611686018427387904 ≤ x.2.1 ∧ x.2.1 ≤ 4611686018427387903) : Fn Tryz.prog 292 [vL uEx l, rqV r] [] [] (.tup [.one (.d (.lst .u8 (prC l (rqA r) (rqL r)).1)), vErr (prC l (rqA r) (rqL r)).2]) [] := by
 have hc := scut_fn l (rqA r) (rqL r) (by omega) hin
 have hlen := exCut_len l (rqA r) (rqL r)
 have hx := exts_fn (exCut l (rqA r) (rqL r)) (by omega)
 unfold prC
 generalize exCut l (rqA r) (rqL r) = c at *
 by_cases h0 : c = []
 · rw [if_pos h0]
   subst h0
   refine Fn.of tblOK [] _ _ _ _ _ Tryz.func292 rfl rfl (by kernel_rfl) (by kernel_rfl) rfl (drawOK tblOK) rfl ?_
   refine ⟨rfl, ?_⟩
   refine ⟨_, _, _, _, hc, trivial, rfl, ?_⟩
   refine ⟨fun _ => ?_, fun h => absurd h (by decide)⟩
   exact ⟨_, _, _, Le.refl _ _, rfl, ⟨rfl, rfl, trivial⟩, trivial, rfl⟩
 · rw [if_neg h0]
   refine Fn.of tblOK [] _ _ _ _ _ Tryz.func292 rfl rfl (by kernel_rfl) (by kernel_rfl) rfl (drawOK tblOK) rfl ?_
   refine ⟨rfl, ?_⟩
   refine ⟨_, _, _, _, hc, trivial, rfl, ?_⟩
   refine ⟨fun h => ?_, fun _ => ?_⟩
   · exfalso
     have h : ((c.length : Nat) : Int) = 0 := of_decide_eq_true h
     exact h0 (List.eq_nil_of_length_eq_zero (by omega))
   · refine ⟨_, _, _, _, hx, trivial, rfl, ?_⟩
     exact ⟨_, _, _, Le.refl _ _, rfl, ⟨rfl, rfl, trivial⟩, trivial, rfl⟩
/-! ### status -/
def stC (bits : Nat) (L : List Dsk) (nm : List UInt8) (r : Rq) : List UInt8 × Int := if (rwC bits L nm).2 = 0 then prC (rwC bits L nm).1 (rqA r) (rqL r) else ([], (rwC bits L nm).2)
theorem stC_err {bits : Nat} {L : List Dsk} {nm : List UInt8} {r : Rq} (h : (stC bits L nm r).2 ≠ 0) : (stC bits L nm r).1 = [] := by
 unfold stC at h ⊢
 split
 · rename_i h1
   rw [if_pos h1] at h
   exact prC_err h
 · rfl
theorem rwC_in {bits room : Nat} {L : List Dsk} (h : CS bits room L) (nm : List UInt8) : (rwC bits L nm).1.length ≤ 65536 ∧ (∀ x, x ∈ (rwC bits L nm).1 → -4611686018427387904 ≤ x.2.1 ∧ x.2.1 ≤ 4611686018427387903) ∧ ((rwC bits L nm).2 = 0 ∨ (rwC bits L nm).2 = 140) := by
 unfold rwC
 cases hd : dk L nm with
 | none => exact ⟨Nat.zero_le _, (fun x hx => by cases hx), .inr rfl⟩
 | some d =>
   obtain ⟨hO, hbt, _⟩ := h.ims d (dk_get hd).1
   have htl := hO.tl
   have := exOf_in (ks := awyL bits L nm d.im.t.length) (by rw [awyL_len]; omega)
   exact ⟨this.1, this.2, .inl rfl⟩
theorem sst_fn {bits room : Nat} {L : List Dsk} (h : CS bits room L) (o : Ob) (nm : List UInt8) (r : Rq) : Fn Tryz.prog 224 [svV nm, rqV r] (svB bits room L o) [] (.tup [.one (.d (.lst .u8 (stC bits L nm r).1)), vErr (stC bits L nm r).2]) (svB bits room L o) := by
 have hr := chrow_fn h nm
 obtain ⟨i1, i2, i3⟩ := rwC_in h nm
 have hp := part_fn (rwC bits L nm).1 r (by omega) i2
 unfold stC
 generalize rwC bits L nm = w at *
 obtain ⟨l, e⟩ := w
 simp only at hr i1 i2 hp ⊢
 by_cases he : e = 0
 · rw [if_pos he]
   subst he
   refine Fn.of tblOK [] _ _ _ _ _ Tryz.func224 rfl rfl (by kernel_rfl) (by kernel_rfl) rfl (drawOK tblOK) rfl ?_
   refine ⟨rfl, rfl, ?_⟩
   refine ⟨_, _, _, _, hr, ⟨rfl, rfl, rfl, rfl, trivial⟩, rfl, ?_⟩
   refine ⟨fun h => absurd h (by decide), fun _ => ?_⟩
   refine ⟨_, _, _, _, hp, trivial, rfl, ?_⟩
   exact ⟨_, _, _, Le.refl _ _, rfl, ⟨rfl, rfl, trivial⟩, ⟨rfl, rfl, rfl, rfl, rfl, trivial⟩, rfl⟩
 · rw [if_neg he]
   refine Fn.of tblOK [] _ _ _ _ _ Tryz.func224 rfl rfl (by kernel_rfl) (by kernel_rfl) rfl (drawOK tblOK) rfl ?_
   refine ⟨rfl, rfl, ?_⟩
   refine ⟨_, _, _, _, hr, ⟨rfl, rfl, rfl, rfl, trivial⟩, rfl, ?_⟩
   refine ⟨fun _ => ?_, fun h => absurd (show (!decide (e = 0)) = false from h) (by simp [he])⟩
   exact ⟨_, _, _, Le.refl _ _, rfl, ⟨rfl, rfl, trivial⟩, ⟨rfl, rfl, rfl, rfl, rfl, trivial⟩, rfl⟩
/-! ### dirty -/
@[reducible] def dirB5 (l : List DEn) : BL := [(1005, .cells [.mp 1006]), (1006, .map .str .adr (dE l)), (1007, .obj (.pool (dD l))), (1008, .obj (.pool (dM l)))]
def dirO (l : List DEn) : Ob := .grp 1005 (dirB5 l)
def dtC (l : List DEn) (r : Rq) : List UInt8 × Int := match (dNms l)[(rqC r).toNat]? with
 | none => ([], 112)
 | some nm => match ek l nm with
   | none => ([], 110)
   | some e => if e.us = true then prC (bzRow e.s e.g e.es) (rqA r) (rqL r) else ([], 110)
theorem dtC_err {l : List DEn} {r : Rq} (h : (dtC l r).2 ≠ 0) : (dtC l r).1 = [] := by
 unfold dtC at h ⊢
 split
 · rfl
 · rename_i nm hn
   rw [hn] at h
   simp only at h
   split
   · rfl
   · rename_i e he
     rw [he] at h
     simp only at h
     split
     · rename_i hu
       rw [if_pos hu] at h
       exact prC_err h
     · rfl
theorem dNms_mem {l : List DEn} {nm : List UInt8} (h : nm ∈ dNms l) : ∃ e, ek l nm = some e := by
 unfold dNms keysS at h
 have h := (List.mergeSort_perm (mkeys (dE l)) leB).mem_iff.1 h
 rw [mkeys_dE] at h
 cases he : ek l nm with
 | none => exact absurd h (ek_none he)
 | some e => exact ⟨e, rfl⟩
theorem bzRow_in {s g : Int} {es : List (El uI × El uI)} (hs : 0 ≤ s ∧ s ≤ 4096) : (bzRow s g es).length ≤ 4096 ∧ ∀ x, x ∈ bzRow s g es → -4611686018427387904 ≤ x.2.1 ∧ x.2.1 ≤ 4611686018427387903 := by
 have h := exOf_in (ks := bzKs g es s.toNat) (by rw [bzKs_len]; omega)
 have h2 := (exOf_ok (bzKs g es s.toNat)).len
 rw [bzKs_len] at h2
 exact ⟨by unfold bzRow; omega, h.2⟩
@[reducible] def sdB (bits room : Nat) (L : List Dsk) (l : List DEn) : BL := [(1001, .cells (chC bits room)), (1002, .map .str .adr (chE L)), (1003, .obj (.pool (chD L))), (1004, .obj (.pool (chM L))), (1005, .cells [.mp 1006]), (1006, .map .str .adr (dE l)), (1007, .obj (.pool (dD l))), (1008, .obj (.pool (dM l)))]
set_option maxHeartbeats 1000000 in
theorem sdt_op {bits room : Nat} {L : List Dsk} {l : List DEn} (h : DOK l) (nm : List UInt8) (r : Rq) (hr : 0 ≤ rqC r) : Fn Tryz.prog 225 [svV nm, rqV r] (sdB bits room L l) [] (.tup [.one (.d (.lst .u8 (dtC l r).1)), vErr (dtC l r).2]) (sdB bits room L l) := by
 have hN := Fn.ren [(1001, 1005), (1002, 1006), (1003, 1007), (1004, 1008)] (dnames_fn h)
 have hln : (dNms l).length ≤ 8 := by rw [dNms_len]; exact h.len
 by_cases hc : (dNms l).length ≤ (rqC r).toNat
 · have e0 : dtC l r = ([], 112) := by
     unfold dtC
     rw [List.getElem?_eq_none hc]
   rw [e0]
   generalize dNms l = ns at *
   refine Fn.of tblOK [] _ _ _ _ _ Tryz.func225 rfl rfl (by kernel_rfl) (by kernel_rfl) rfl (drawOK tblOK) rfl ?_
   refine ⟨rfl, rfl, ?_⟩
   refine ⟨_, _, _, _, hN, ⟨rfl, rfl, rfl, rfl, trivial⟩, rfl, ?_⟩
   refine ⟨fun _ => ?_, fun hh => ?_⟩
   · exact ⟨_, _, _, Le.refl _ _, rfl, ⟨rfl, rfl, trivial⟩, ⟨rfl, rfl, rfl, rfl, rfl, rfl, rfl, rfl, trivial⟩, rfl⟩
   · exfalso
     have hh : ¬ ((ns.length : Nat) : Int) ≤ rqC r := of_decide_eq_false hh
     omega
 · have hc2 : (rqC r).toNat < (dNms l).length := by omega
   obtain ⟨e, he⟩ := dNms_mem (List.getElem_mem hc2)
   have e0 : dtC l r = if e.us = true then prC (bzRow e.s e.g e.es) (rqA r) (rqL r) else ([], 110) := by
     unfold dtC
     rw [List.getElem?_eq_getElem hc2]
     simp only
     rw [he]
   have hg : lget (dNms l) (rqC r).toNat = some (dNms l)[(rqC r).toNat] := List.getElem?_eq_getElem hc2
   have hge := Fn.ren [(1001, 1005), (1002, 1006), (1003, 1007), (1004, 1008)] (dget_ok h he)
   obtain ⟨k1, k2, k3, k4⟩ := h.ok e (ek_get he).1
   have hrow := Fn.ren [(1001, 5001), (1002, 5002)] (bzrow_fn e.s e.g e.es k1 k2.1)
   have hi := bzRow_in (g := e.g) (es := e.es) k1
   have hp := part_fn (bzRow e.s e.g e.es) r (by omega) hi.2
   rw [e0]
   generalize (dNms l)[(rqC r).toNat] = n1 at *
   generalize dNms l = ns at *
   generalize bzRow e.s e.g e.es = rw_ at *
   generalize prC rw_ (rqA r) (rqL r) = pr at *
   refine Fn.of tblOK [5] _ _ _ _ _ Tryz.func225 rfl rfl (by kernel_rfl) (by kernel_rfl) rfl (drawOK tblOK) rfl ?_
   refine ⟨rfl, rfl, ?_⟩
   refine ⟨_, _, _, _, hN, ⟨rfl, rfl, rfl, rfl, trivial⟩, rfl, ?_⟩
   refine ⟨fun hh => ?_, fun _ => ?_⟩
   · exfalso
     have hh : ((ns.length : Nat) : Int) ≤ rqC r := of_decide_eq_true hh
     omega
   refine ⟨hr, n1, hg, ?_⟩
   refine ⟨_, _, _, _, hge, ⟨rfl, rfl, rfl, rfl, trivial⟩, rfl, ?_⟩
   refine ⟨rfl, ?_⟩
   refine ⟨indep_of (by kernel_rfl), ?_⟩
   show TrQ _ _ _ _ _ _ _
   refine TrQ.go tblOK (drawOK tblOK) [] (by kernel_rfl) (Le.refl _ _) ?_
   refine ⟨fun hu => ?_, fun hu => ?_⟩
   · have hu : e.us = false := by
       have hu : (!e.us) = true := hu
       simpa using hu
     rw [if_neg (by rw [hu]; decide)]
     exact ⟨_, _, _, Le.refl _ _, rfl, ⟨rfl, rfl, trivial⟩, ⟨rfl, rfl, rfl, rfl, rfl, rfl, rfl, rfl, trivial⟩, rfl⟩
   · have hu : e.us = true := by
       have hu : (!e.us) = false := hu
       simpa using hu
     rw [if_pos hu]
     refine ⟨_, _, _, _, hrow, ⟨rfl, rfl, trivial⟩, rfl, ?_⟩
     refine ⟨_, _, _, _, hp, trivial, rfl, ?_⟩
     refine ⟨indep_of (by kernel_rfl), ?_⟩
     exact ⟨_, _, _, Le.refl _ _, rfl, ⟨rfl, rfl, trivial⟩, ⟨rfl, rfl, rfl, rfl, rfl, rfl, rfl, rfl, trivial⟩, rfl⟩
theorem sd_perm (bits room : Nat) (L : List Dsk) (l : List DEn) (d : Nat) : lookB (dirB5 l ++ [(1001, .cells (chC bits room)), (1002, .map .str .adr (chE L)), (1003, .obj (.pool (chD L))), (1004, .obj (.pool (chM L)))]) d = lookB (sdB bits room L l) d := by
 by_cases e1 : 1001 = d
 · subst e1; rfl
 by_cases e2 : 1002 = d
 · subst e2; rfl
 by_cases e3 : 1003 = d
 · subst e3; rfl
 by_cases e4 : 1004 = d
 · subst e4; rfl
 by_cases e5 : 1005 = d
 · subst e5; rfl
 by_cases e6 : 1006 = d
 · subst e6; rfl
 by_cases e7 : 1007 = d
 · subst e7; rfl
 by_cases e8 : 1008 = d
 · subst e8; rfl
 simp [lookB_cons, e1, e2, e3, e4, e5, e6, e7, e8]
theorem sv_perm (bits room : Nat) (L : List Dsk) (o : Ob) (d : Nat) : lookB (svB bits room L o) d = lookB ((1005, .obj o) :: [(1001, .cells (chC bits room)), (1002, .map .str .adr (chE L)), (1003, .obj (.pool (chD L))), (1004, .obj (.pool (chM L)))]) d := by
 by_cases e1 : 1001 = d
 · subst e1; rfl
 by_cases e2 : 1002 = d
 · subst e2; rfl
 by_cases e3 : 1003 = d
 · subst e3; rfl
 by_cases e4 : 1004 = d
 · subst e4; rfl
 by_cases e5 : 1005 = d
 · subst e5; rfl
 simp [lookB_cons, e1, e2, e3, e4, e5]
theorem sdt_fn {bits room : Nat} {L : List Dsk} {l : List DEn} (h : DOK l) (nm : List UInt8) (r : Rq) (hr : 0 ≤ rqC r) : Fn Tryz.prog 225 [svV nm, rqV r] (svB bits room L (dirO l)) [] (.tup [.one (.d (.lst .u8 (dtC l r).1)), vErr (dtC l r).2]) (svB bits room L (dirO l)) := by
 have h1 := Fn.congrB (sdt_op (bits := bits) (room := room) (L := L) h nm r hr) (sd_perm bits room L l) (sd_perm bits room L l)
 have h2 := Fn.close (c := 1005) (o := dirO l) (o' := dirO l) (Bl := dirB5 l) (Bl' := dirB5 l) (nw' := []) [1006, 1007, 1008] h1 (fun _ _ _ _ h => h) (fun _ _ _ _ h => h) rfl rfl
 exact Fn.congrB h2 (sv_perm bits room L (dirO l)) (sv_perm bits room L (dirO l))
/-! ### answers -/
def anX (bits : Nat) (L : List Dsk) (nm : List UInt8) (l : List DEn) (r : Rq) : List UInt8 × Int := if rqK r = 1 then rdA bits L nm r else if rqK r = 2 then stC bits L nm r else dtC l r
def anB (bits : Nat) (L : List Dsk) (nm : List UInt8) (l : List DEn) (r : Rq) : List UInt8 := tellB (anX bits L nm l r).2 (rqH r) (anX bits L nm l r).1
theorem rdA_in {bits room : Nat} {L : List Dsk} (h : CS bits room L) (nm : List UInt8) (r : Rq) : (rdA bits L nm r).1.length ≤ 1024 ∧ 0 ≤ (rdA bits L nm r).2 ∧ (rdA bits L nm r).2 ≤ 1000 := by
 unfold rdA
 split
 · exact ⟨Nat.zero_le _, by decide, by decide⟩
 rename_i h64
 unfold rdC
 split
 · exact ⟨Nat.zero_le _, by decide, by decide⟩
 · rename_i d hd
   split
   · rename_i hi
     have := iIns_pos hi
     rw [crdK_len h.toChOK hd (h.dep nm).1]
     exact ⟨by omega, (by show (0 : Int) ≤ 0; decide), (by show (0 : Int) ≤ 1000; decide)⟩
   · rename_i hi
     refine ⟨Nat.zero_le _, ?_⟩
     unfold iIns
     split
     · decide
     · split <;> decide
theorem prC_in (l : List Xt) (a n : Int) (hl : l.length ≤ 4096) : (prC l a n).1.length ≤ 20480 ∧ 0 ≤ (prC l a n).2 ∧ (prC l a n).2 ≤ 1000 := by
 unfold prC
 split
 · exact ⟨Nat.zero_le _, by decide, by decide⟩
 · have h1 := exCut_len l a n
   have h2 := xtsB_len (exCut l a n)
   exact ⟨by show (xtsB (exCut l a n)).length ≤ 20480; omega, by show (0 : Int) ≤ 0; decide, by show (0 : Int) ≤ 1000; decide⟩
theorem rwC_len {bits room : Nat} {L : List Dsk} (h : CS bits room L) (nm : List UInt8) : (rwC bits L nm).1.length ≤ 256 := by
 unfold rwC
 cases hd : dk L nm with
 | none => exact Nat.zero_le _
 | some d =>
   obtain ⟨hO, hbt, _⟩ := h.ims d (dk_get hd).1
   have htl := hO.tl
   have := (exOf_ok (awyL bits L nm d.im.t.length)).len
   rw [awyL_len] at this
   exact Nat.le_trans this htl
theorem anX_in {bits room : Nat} {L : List Dsk} (h : CS bits room L) {l : List DEn} (hd : DOK l) (nm : List UInt8) (r : Rq) : (anX bits L nm l r).1.length ≤ 20480 ∧ 0 ≤ (anX bits L nm l r).2 ∧ (anX bits L nm l r).2 ≤ 1000 := by
 unfold anX
 split
 · have := rdA_in h nm r
   exact ⟨by omega, this.2⟩
 split
 · unfold stC
   obtain ⟨i1, i2, i3⟩ := rwC_in h nm
   have hl := rwC_len h nm
   split
   · exact prC_in _ _ _ (by omega)
   · rcases i3 with i3 | i3 <;> rw [i3] <;> exact ⟨Nat.zero_le _, by decide, by decide⟩
 · unfold dtC
   split
   · exact ⟨Nat.zero_le _, by decide, by decide⟩
   · split
     · exact ⟨Nat.zero_le _, by decide, by decide⟩
     · rename_i e he
       split
       · exact prC_in _ _ _ (bzRow_in (hd.ok e (ek_get he).1).1).1
       · exact ⟨Nat.zero_le _, by decide, by decide⟩
theorem anB_len {bits room : Nat} {L : List Dsk} (h : CS bits room L) {l : List DEn} (hd : DOK l) (nm : List UInt8) (r : Rq) : (anB bits L nm l r).length ≤ 30000 := by
 have := anX_in h hd nm r
 unfold anB tellB
 rw [List.length_append, List.length_append, List.length_append, encR_length, encR_length, encR_length, encT_length]
 omega
/-- What is asked, and is no End. -/
def AskC (r : Rq) : Prop := rqFit r = true ∧ kindOK (rqK r) = true ∧ rqK r ≠ 4
theorem AskC.of {s : List UInt8} (h : hearOK s = true) (h4 : rqK (hearR s) ≠ 4) : AskC (hearR s) := by
 refine ⟨hearR_fit s, ?_, h4⟩
 unfold hearOK at h
 simp only [Bool.and_eq_true] at h
 exact h.2.2
theorem ansAll_fn {bits room : Nat} {L : List Dsk} (h : CS bits room L) {l : List DEn} (hd : DOK l) (nm : List UInt8) (r : Rq) (hr : AskC r) : Fn Tryz.prog 141 [svV nm, rqV r] (svB bits room L (dirO l)) [] (vL .u8 (anB bits L nm l r)) (svB bits room L (dirO l)) := by
 obtain ⟨hf, hk, h4⟩ := hr
 obtain ⟨i1, i2, i3⟩ := anX_in h hd nm r
 have hk2 : rqK r = 1 ∨ rqK r = 2 ∨ rqK r = 3 := by
   unfold kindOK at hk
   simp only [Bool.and_eq_true, decide_eq_true_eq] at hk
   omega
 have hh : fit 2 (rqH r) = true := by
   unfold rqFit at hf
   simp only [Bool.and_eq_true] at hf
   exact hf.2.2.1
 have hc0 : 0 ≤ rqC r := by
   unfold rqFit at hf
   simp only [Bool.and_eq_true] at hf
   exact (fit_iff.1 hf.2.1).1
 have hT : tellOK (anX bits L nm l r).2 (rqH r) (anX bits L nm l r).1 = true := by
   unfold tellOK
   have e1 : fit 2 (anX bits L nm l r).2 = true := fit_iff.2 ⟨i2, by omega⟩
   have e2 : fit 4 (((anX bits L nm l r).1.length : Nat) : Int) = true := fit_iff.2 ⟨by omega, by rw [Int.toNat_natCast]; omega⟩
   rw [e1, hh, e2]
   rfl
 unfold anB
 rcases hk2 with hk2 | hk2 | hk2
 · have e : anX bits L nm l r = rdA bits L nm r := by unfold anX; rw [if_pos hk2]
   rw [e] at hT i1 ⊢
   obtain ⟨k, c, hn, a, n⟩ := r
   have hk2 : k = 1 := hk2
   subst hk2
   exact Fn.frz (answer_fn (k := 1) (.inl ⟨rfl, rfl⟩) (srd_fn h (dirO l) nm (1, c, hn, a, n)) rdA_err (by omega) hT) rfl rfl
 · have e : anX bits L nm l r = stC bits L nm r := by unfold anX; rw [if_neg (by omega), if_pos hk2]
   rw [e] at hT i1 ⊢
   obtain ⟨k, c, hn, a, n⟩ := r
   have hk2 : k = 2 := hk2
   subst hk2
   exact Fn.frz (answer_fn (k := 2) (.inr (.inl ⟨rfl, rfl⟩)) (sst_fn h (dirO l) nm (2, c, hn, a, n)) stC_err (by omega) hT) rfl rfl
 · have e : anX bits L nm l r = dtC l r := by unfold anX; rw [if_neg (by omega), if_neg (by omega)]
   rw [e] at hT i1 ⊢
   obtain ⟨k, c, hn, a, n⟩ := r
   have hk2 : k = 3 := hk2
   subst hk2
   exact Fn.frz (answer_fn (k := 3) (.inr (.inr ⟨rfl, rfl⟩)) (sdt_fn hd nm (3, c, hn, a, n) hc0) dtC_err (by omega) hT) rfl rfl
/-- Any bytes are served. -/
theorem serveAll_fn {bits room : Nat} {L : List Dsk} (h : CS bits room L) {l : List DEn} (hd : DOK l) (nm : List UInt8) (b : List UInt8) (hb : b.length ≤ 100000) :
   Fn Tryz.prog 37 [vP 1001, vS nm, vP 1005, vL .u8 b] (svB bits room L (dirO l)) [1009] (.tup [.one (.own 1009), .one (.d (.int .i64 ((srv (anB bits L nm l) b.length b).2.1 : Nat))), .one (.d (.int .i64 (srv (anB bits L nm l) b.length b).2.2))]) (svR bits room L (dirO l) (srv (anB bits L nm l) b.length b).1) :=
 serve_fn (C := AskC) (ans := anB bits L nm l) (fun r hr => ansAll_fn h hd nm r hr) (fun r _ => anB_len h hd nm r) b hb (fun k _ h1 h2 => AskC.of h1 h2)
end Go.Proofs.YtojaemgabaehdaaGreat
/-!
  Rows of extents: the kinds that they tell, place by place; cut whole, written as bytes, read again.
-/
namespace Go.Proofs.YtojaemgabaehdaaGreat
set_option linter.unusedVariables false
set_option linter.unusedSimpArgs false
set_option maxRecDepth 10000
open Go.RowKit Go.Proofs
/-- The kinds of all places. -/
def exK (l : List Xt) : List Int := l.flatMap fun x => List.replicate x.2.1.toNat x.2.2
theorem exK_app (l m : List Xt) : exK (l ++ m) = exK l ++ exK m := List.flatMap_append ..
theorem exK_one (x : Xt) : exK [x] = List.replicate x.2.1.toNat x.2.2 := by
 show List.replicate x.2.1.toNat x.2.2 ++ [] = _
 rw [List.append_nil]
theorem exRt_app : ∀ (p q : List Xt) (a : Int), exRt a p = true → exRt a (p ++ q) = exRt (a + ((exK p).length : Int)) q
 | [], q, a, _ => by
   show exRt a q = exRt (a + (0 : Int)) q
   rw [Int.add_zero]
 | x :: p, q, a, h => by
   rw [exRt_cons] at h
   split at h
   · rename_i hc
     show exRt a (x :: (p ++ q)) = _
     rw [exRt_cons, if_pos hc, exRt_app p q _ h]
     congr 1
     have e : (exK (x :: p)).length = x.2.1.toNat + (exK p).length := by
       show (List.replicate x.2.1.toNat x.2.2 ++ exK p).length = _
       rw [List.length_append, List.length_replicate]
     rw [e]
     omega
   · cases h
theorem exRt_pre {p q : List Xt} {a : Int} (h : exRt a (p ++ q) = true) : exRt a p = true := by
 induction p generalizing a with
 | nil => rfl
 | cons x p ih =>
   have h : exRt a (x :: (p ++ q)) = true := h
   rw [exRt_cons] at h ⊢
   split at h
   · rename_i hc
     rw [if_pos hc]
     exact ih h
   · cases h
theorem exRt_one {a : Int} {x : Xt} : exRt a [x] = true ↔ x.1 = a ∧ 1 ≤ x.2.1 ∧ x.2.1 ≤ 65536 - a := by
 rw [exRt_cons]
 split
 · rename_i h; exact ⟨fun _ => h, fun _ => rfl⟩
 · rename_i h; exact ⟨(fun e => by cases e), fun e => absurd e h⟩
theorem snoc_cases {α : Type} (l : List α) : l = [] ∨ ∃ p x, l = p ++ [x] := by
 rcases List.eq_nil_or_concat l with h | ⟨p, x, h⟩
 · exact .inl h
 · exact .inr ⟨p, x, by rw [h, List.concat_eq_append]⟩
theorem exEnd_rt {l : List Xt} (h : exRt 0 l = true) : exEnd l = ((exK l).length : Int) := by
 rcases snoc_cases l with rfl | ⟨p, x, rfl⟩
 · rfl
 · rw [exEnd_snoc]
   have h1 := exRt_app p [x] 0 (exRt_pre h)
   rw [h] at h1
   obtain ⟨g1, g2, g3⟩ := exRt_one.1 h1.symm
   rw [exK_app, List.length_append, exK_one, List.length_replicate, g1]
   omega
/-- Places of a kind more. -/
theorem exAdd_rt {l : List Xt} {n k : Int} (h : exRt 0 l = true) (hn : 1 ≤ n) (hb : ((exK l).length : Int) + n ≤ 65536) : exRt 0 (exAdd l n k) = true ∧ exK (exAdd l n k) = exK l ++ List.replicate n.toNat k := by
 have hnew : exRt 0 (l ++ [(exEnd l, n, k)]) = true ∧ exK (l ++ [(exEnd l, n, k)]) = exK l ++ List.replicate n.toNat k := by
   refine ⟨?_, by rw [exK_app, exK_one]⟩
   rw [exRt_app l _ 0 h, exEnd_rt h, Int.zero_add]
   exact exRt_one.2 ⟨rfl, hn, by show n ≤ _; omega⟩
 unfold exAdd
 rw [if_neg (by omega)]
 rcases snoc_cases l with rfl | ⟨p, x, rfl⟩
 · exact hnew
 · rw [List.getLast?_concat]
   simp only
   split
   · rename_i hk
     have h1 := exRt_app p [x] 0 (exRt_pre h)
     rw [h] at h1
     obtain ⟨g1, g2, g3⟩ := exRt_one.1 h1.symm
     have e : (p ++ [x]).set ((p ++ [x]).length - 1) (x.1, x.2.1 + n, x.2.2) = p ++ [(x.1, x.2.1 + n, x.2.2)] := by
       rw [List.length_append, List.set_append_right _ _ (by simp)]
       simp
     rw [e]
     rw [exK_app, List.length_append, exK_one, List.length_replicate] at hb
     refine ⟨?_, ?_⟩
     · rw [exRt_app p _ 0 (exRt_pre h)]
       exact exRt_one.2 ⟨g1, by show 1 ≤ x.2.1 + n; omega, by show x.2.1 + n ≤ _; omega⟩
     · rw [exK_app, exK_app, exK_one, exK_one, List.append_assoc]
       congr 1
       show List.replicate (x.2.1 + n).toNat x.2.2 = _
       rw [← hk, List.replicate_append_replicate]
       congr 1
       omega
   · exact hnew
theorem exFold_rt : ∀ (ks : List Int) (acc : List Xt), exRt 0 acc = true → (exK acc).length + ks.length ≤ 65536 → exRt 0 (ks.foldl (fun l k => exAdd l 1 k) acc) = true ∧ exK (ks.foldl (fun l k => exAdd l 1 k) acc) = exK acc ++ ks
 | [], acc, h, _ => ⟨h, (List.append_nil _).symm⟩
 | k :: ks, acc, h, hb => by
   rw [List.length_cons] at hb
   obtain ⟨g1, g2⟩ := exAdd_rt (n := 1) (k := k) h (by decide) (by omega)
   have e1 : exK acc ++ List.replicate (1 : Int).toNat k = exK acc ++ [k] := rfl
   rw [e1] at g2
   obtain ⟨f1, f2⟩ := exFold_rt ks (exAdd acc 1 k) g1 (by rw [g2, List.length_append]; simp; omega)
   exact ⟨f1, by rw [List.foldl_cons, f2, g2, List.append_assoc]; rfl⟩
theorem exOf_rt {ks : List Int} (h : ks.length ≤ 65536) : exRt 0 (exOf ks) = true ∧ exK (exOf ks) = ks := by
 obtain ⟨f1, f2⟩ := exFold_rt ks [] rfl (by show 0 + ks.length ≤ 65536; omega)
 exact ⟨f1, f2⟩
/-- All of a row. -/
theorem exCut_go (N : Int) : ∀ (l acc : List Xt), exRt ((exK acc).length : Int) l = true → exRt 0 acc = true → (((exK acc).length + (exK l).length : Nat) : Int) ≤ N → N ≤ 65536 → exRt 0 (l.foldl (exCutF 0 N) acc) = true ∧ exK (l.foldl (exCutF 0 N) acc) = exK acc ++ exK l
 | [], acc, _, h, _, _ => ⟨h, (List.append_nil _).symm⟩
 | x :: l, acc, h, ha, hb, hN => by
   rw [exRt_cons] at h
   split at h
   · rename_i hc
     obtain ⟨c1, c2, c3⟩ := hc
     have e : (exK (x :: l)).length = x.2.1.toNat + (exK l).length := by
       show (List.replicate x.2.1.toNat x.2.2 ++ exK l).length = _
       rw [List.length_append, List.length_replicate]
     rw [e] at hb
     have e2 : min (x.1 + x.2.1) (0 + N) - max x.1 0 = x.2.1 := by omega
     have e3 : exCutF 0 N acc x = exAdd acc x.2.1 x.2.2 := by unfold exCutF; rw [e2]
     obtain ⟨g1, g2⟩ := exAdd_rt (n := x.2.1) (k := x.2.2) ha c2 (by omega)
     have g3 : ((exK (exAdd acc x.2.1 x.2.2)).length : Int) = ((exK acc).length : Int) + x.2.1 := by rw [g2, List.length_append, List.length_replicate]; omega
     rw [List.foldl_cons, e3]
     obtain ⟨f1, f2⟩ := exCut_go N l (exAdd acc x.2.1 x.2.2) (by rw [g3]; exact h) g1 (by omega) hN
     refine ⟨f1, ?_⟩
     rw [f2, g2, List.append_assoc]
     rfl
   · cases h
theorem exCut_all {l : List Xt} (h : exRt 0 l = true) (h1 : 1 ≤ exEnd l) (h2 : exEnd l ≤ 65536) : exRt 0 (exCut l 0 (exEnd l)) = true ∧ exK (exCut l 0 (exEnd l)) = exK l := by
 have hE := exEnd_rt h
 have hok : exCutOK l 0 (exEnd l) = true := by
   unfold exCutOK
   rw [h, decide_eq_true h1, decide_eq_true (Int.le_refl (exEnd l)), decide_eq_true (show (0 : Int) ≤ exEnd l - exEnd l by omega)]
   rfl
 unfold exCut
 rw [if_pos hok]
 obtain ⟨f1, f2⟩ := exCut_go (exEnd l) l [] h rfl (by rw [hE]; show (((0 : Nat) + (exK l).length : Nat) : Int) ≤ _; omega) h2
 exact ⟨f1, f2⟩
/-! ### bytes -/
theorem xtL_enc : ∀ (l : List Xt) (n : Nat) (a : Int), exRt a l = true → 0 ≤ a → (∀ x, x ∈ l → 0 ≤ x.2.2 ∧ x.2.2 < 256) → (xtsB l).length < n → xtL n a (xtsB l, 0) = some l
 | [], n, a, _, _, _, _ => by
   cases n with
   | zero => rfl
   | succ n => unfold xtL; rw [if_pos (show (xtsB [], (0 : Int)).1 = [] from rfl)]
 | x :: l, n, a, h, ha, hk, hn => by
   rw [exRt_cons] at h
   split at h
   · rename_i hc
     obtain ⟨c1, c2, c3⟩ := hc
     obtain ⟨k1, k2⟩ := hk x (List.mem_cons_self ..)
     have hf : fdOK (xtF x) = true := by
       show (fit 4 x.2.1 && (fit 1 x.2.2 && true)) = true
       rw [fit_iff.2 ⟨by omega, by show x.2.1.toNat < 4294967296; omega⟩, fit_iff.2 ⟨k1, by show x.2.2.toNat < 256; omega⟩]
       rfl
     have e1 : xtB1 x = encR x.2.1.toNat 4 ++ (encR x.2.2.toNat 1 ++ []) := by unfold xtB1; rw [if_pos hf]; rfl
     have e : xtsB (x :: l) = encR x.2.1.toNat 4 ++ (encR x.2.2.toNat 1 ++ xtsB l) := by
       show xtB1 x ++ xtsB l = _
       rw [e1, List.append_nil, List.append_assoc]
     have hlen : (xtsB (x :: l)).length = 5 + (xtsB l).length := by rw [e, List.length_append, List.length_append, encR_length, encR_length]; omega
     obtain ⟨m, rfl⟩ : ∃ m, n = m + 1 := ⟨n - 1, by omega⟩
     have r1 : x1 (xtsB (x :: l), 0) = ((encR x.2.2.toNat 1 ++ xtsB l, 0), x.2.1.toNat) := by
       unfold x1
       rw [e]
       exact rdN_forth (by show x.2.1.toNat < 4294967296; omega) _
     have r2 : x2 (xtsB (x :: l), 0) = ((xtsB l, 0), x.2.2.toNat) := by
       unfold x2
       rw [r1]
       exact rdN_forth (by show x.2.2.toNat < 256; omega) _
     have hne : ¬ (xtsB (x :: l), (0 : Int)).1 = [] := fun e0 => by
       have := congrArg List.length e0
       rw [show ((xtsB (x :: l), (0 : Int)).1).length = (xtsB (x :: l)).length from rfl, hlen] at this
       simp at this
     unfold xtL
     rw [if_neg hne, r2, if_pos rfl, r1]
     simp only
     rw [show a + ((x.2.1.toNat : Nat) : Int) = a + x.2.1 by omega, xtL_enc l m (a + x.2.1) h (by omega) (fun y hy => hk y (List.mem_cons_of_mem _ hy)) (by omega)]
     show some ((a, ((x.2.1.toNat : Nat) : Int), ((x.2.2.toNat : Nat) : Int)) :: l) = some (x :: l)
     rw [show ((x.2.1.toNat : Nat) : Int) = x.2.1 by omega, show ((x.2.2.toNat : Nat) : Int) = x.2.2 by omega, ← c1]
   · cases h
theorem exK_mem {l : List Xt} {x : Xt} (h : x ∈ l) (h1 : 1 ≤ x.2.1) : x.2.2 ∈ exK l := by
 unfold exK
 rw [List.mem_flatMap]
 exact ⟨x, h, List.mem_replicate.2 ⟨by omega, rfl⟩⟩
/-- Where the i-th extent begins. -/
theorem exRt_at {l : List Xt} (h : exRt 0 l = true) {i : Nat} (hi : i < l.length) : (l[i]).1 = ((exK (l.take i)).length : Int) ∧ 1 ≤ (l[i]).2.1 ∧ exK (l.take (i + 1)) = exK (l.take i) ++ List.replicate (l[i]).2.1.toNat (l[i]).2.2 := by
 have e : l.take (i + 1) = l.take i ++ [l[i]] := by
   rw [List.take_add_one, List.getElem?_eq_getElem hi]
   rfl
 have h2 : exRt 0 (l.take i ++ [l[i]] ++ l.drop (i + 1)) = true := by
   rw [← e, List.take_append_drop]
   exact h
 have h3 := exRt_pre h2
 rw [exRt_app _ _ 0 (exRt_pre h3), Int.zero_add] at h3
 obtain ⟨g1, g2, _⟩ := exRt_one.1 h3
 exact ⟨g1, g2, by rw [e, exK_app, exK_one]⟩
theorem exK_take_le (l : List Xt) (i : Nat) : (exK (l.take i)).length ≤ (exK l).length := by
 conv => rhs; rw [← List.take_append_drop i l, exK_app, List.length_append]
 omega
end Go.Proofs.YtojaemgabaehdaaGreat
/-!
  Chains: scripts of calls: few, does.
-/
namespace Go.Proofs.YtojaemgabaehdaaGreat
set_option linter.unusedVariables false
set_option linter.unusedSimpArgs false
set_option maxRecDepth 10000
open Go.RowKit Go.Proofs
@[reducible] def uQ : U := .pr uI (.pr uI (.pr uI (.pr (.sl .u8) .str)))
@[reducible] def uC : U := .pr uI (.pr uI (.pr .str (.pr .str uQ)))
abbrev Cq := Int × Int × Int × List UInt8 × List UInt8
abbrev Cop := Int × Int × List UInt8 × List UInt8 × Cq
@[reducible] def cK (o : Cop) : Int := o.1
@[reducible] def cSz (o : Cop) : Int := o.2.1
@[reducible] def cNm (o : Cop) : List UInt8 := o.2.2.1
@[reducible] def cOt (o : Cop) : List UInt8 := o.2.2.2.1
@[reducible] def cQ (o : Cop) : Cq := o.2.2.2.2
@[reducible] def qK (q : Cq) : Int := q.1
@[reducible] def qA (q : Cq) : Int := q.2.1
@[reducible] def qL (q : Cq) : Int := q.2.2.1
@[reducible] def qB (q : Cq) : List UInt8 := q.2.2.2.1
@[reducible] def qN (q : Cq) : List UInt8 := q.2.2.2.2
@[reducible] def copL (o : Cop) : List S1 := [.d (.int .i64 (cK o)), .d (.int .i64 (cSz o)), .d (.str (cNm o)), .d (.str (cOt o)), .d (.int .i64 (qK (cQ o))), .d (.int .i64 (qA (cQ o))), .d (.int .i64 (qL (cQ o))), .d (.lst .u8 (qB (cQ o))), .d (.str (qN (cQ o)))]
@[reducible] def copV (o : Cop) : SV := .c (.agg (copL o))
/-! ### few -/
def cTot (o : Cop) : Nat := (qB (cQ o)).length + (cNm o).length + (cOt o).length
def cBad (o : Cop) : Bool := decide (12 < cSz o) && decide (cSz o ≤ 256)
def cTo (l : List Cop) (k : Nat) : Nat := ((l.take k).map cTot).sum
theorem csum_le : ∀ (l : List Nat) (k : Nat), (l.take k).sum ≤ l.sum
 | [], k => by simp
 | x :: l, 0 => by simp
 | x :: l, k + 1 => by
   have := csum_le l k
   simp
   omega
theorem cTo_le (l : List Cop) (k : Nat) : cTo l k ≤ (l.map cTot).sum := by
 unfold cTo
 rw [List.map_take]
 exact csum_le _ _
theorem cTo_succ (l : List Cop) {k : Nat} (h : k < l.length) : cTo l (k + 1) = cTo l k + cTot l[k] := by
 unfold cTo
 rw [List.take_add_one, List.getElem?_eq_getElem h, List.map_append, List.sum_append]
 rfl
theorem cTot_le {l : List Cop} {o : Cop} (h : o ∈ l) : cTot o ≤ (l.map cTot).sum := by
 induction l with
 | nil => cases h
 | cons x l ih =>
   rw [List.map_cons, List.sum_cons]
   rcases List.mem_cons.1 h with rfl | h
   · omega
   · have := ih h
     omega
/-- .. up to the k-th none is bad. -/
def cGood (l : List Cop) (k : Nat) : Prop := ∀ (i : Nat) (o : Cop), i < k → l[i]? = some o → cBad o = false
theorem cGood.succ {l : List Cop} {k : Nat} (h : cGood l k) (hk : k < l.length) (hb : cBad l[k] = false) : cGood l (k + 1) := fun i o hi ho => by
 by_cases e : i = k
 · subst e
   rw [List.getElem?_eq_getElem hk] at ho
   injection ho with ho
   rw [← ho]
   exact hb
 · exact h i o (by omega) ho
/-! ### does -/
/-! Chains: what the bulk of a script bounds. -/
theorem bulkc_u8 : ∀ s : List UInt8, bulkU (.sl .u8) s = 1 + s.length
 | [] => rfl
 | b :: s => by
   have ih := bulkc_u8 s
   have e2 : bulkU (.sl .u8) s = 1 + (List.map (bulkU .u8) s).sum := rfl
   show 1 + (1 + (List.map (bulkU .u8) s).sum) = 1 + (s.length + 1)
   omega
theorem bulkc_op (o : Cop) : bulkU uC o = 9 + cTot o + (qN (cQ o)).length := by
 have h1 := bulkc_u8 (qB (cQ o))
 have e : bulkU uC o = 1 + (1 + ((1 + (cNm o).length) + ((1 + (cOt o).length) + (1 + (1 + (1 + (bulkU (.sl .u8) (qB (cQ o)) + (1 + (qN (cQ o)).length)))))))) := rfl
 rw [e, h1]
 unfold cTot
 omega
theorem bulkc_ops : ∀ l : List Cop, 1 + l.length + (l.map cTot).sum ≤ bulkU (.sl uC) l
 | [] => Nat.le_refl _
 | o :: l => by
   have h1 := bulkc_ops l
   have e2 : bulkU (.sl uC) l = 1 + (List.map (bulkU uC) l).sum := rfl
   have e3 := bulkc_op o
   show 1 + (l.length + 1) + (cTot o + (l.map cTot).sum) ≤ 1 + (bulkU uC o + (List.map (bulkU uC) l).sum)
   omega
end Go.Proofs.YtojaemgabaehdaaGreat
/-!
  Scripts on chains whose calls tell an error alone: what they make of a chain; small disks.
-/
namespace Go.Proofs.YtojaemgabaehdaaGreat
set_option linter.unusedVariables false
set_option linter.unusedSimpArgs false
set_option maxRecDepth 10000
open Go.RowKit Go.Proofs
def doW (bits : Nat) (L : List Dsk) (nm : List UInt8) (q : Cq) : CR :=
 if qK q = 1 then wrC bits L nm (qA q) (qB q) else if qK q = 2 then zrC bits L nm (qA q) (qL q) else if qK q = 3 then dsC L nm (qA q) (qL q) else ⟨0, L⟩
def doD (bits room : Nat) (L : List Dsk) (o : Cop) (p : Nat × Nat) : CR :=
 if cK o = 0 then adC bits room L (cNm o) (cSz o) (cOt o) p else if cK o = 1 then rmC L (cNm o) else if cK o = 2 then rbC L (cNm o) (cOt o) else if cK o = 3 then doW bits L (cNm o) (cQ o) else ⟨0, L⟩
section
variable {bits room : Nat} {L : List Dsk}
theorem doW_cs (h : CS bits room L) (nm : List UInt8) (q : Cq) : CS bits room (doW bits L nm q).L := by
 unfold doW
 split
 · exact wrC_cs h _ _ _
 · split
   · exact zrC_cs h _ _ _
   · split
     · exact dsC_cs h _ _ _
     · exact h
theorem doW_lm (h : CS bits room L) (nm : List UInt8) (q : Cq) : Lm L nm (doW bits L nm q).L := by
 unfold doW
 split
 · exact wrC_lm h _ _ _
 · split
   · exact zrC_lm h _ _ _
   · split
     · exact dsC_lm h _ _ _
     · exact .inl rfl
theorem doD_cs (h : CS bits room L) {o : Cop} (hk : cK o ≠ 0) (p : Nat × Nat) : CS bits room (doD bits room L o p).L := by
 unfold doD
 rw [if_neg hk]
 split
 · exact rmC_cs h _
 · split
   · exact rbC_cs h _ _
   · split
     · exact doW_cs h _ _
     · exact h
/-- No disk has more than twelve clusters. -/
def Sml (L : List Dsk) : Prop := ∀ d, d ∈ L → d.im.t.length ≤ 12
theorem Sml.nil : Sml [] := fun d h => by cases h
theorem Sml.of (hN : CS bits room L) (h : ∀ n, szOf L n ≤ 12) : Sml L := fun d hd => by
 have := h d.nm
 unfold szOf at this
 rw [dk_mem hN.nms hd] at this
 exact this
theorem Sml.sz (h : Sml L) (n : List UInt8) : szOf L n ≤ 12 := by
 unfold szOf
 cases e : dk L n with
 | none => exact Nat.zero_le _
 | some d => exact h d (dk_get e).1
theorem Lm.sz {L' : List Dsk} {t : List UInt8} (hl : Lm L t L') (n : List UInt8) : szOf L' n = szOf L n ∧ (dk L' n).isSome = (dk L n).isSome := by
 rcases hl with rfl | ⟨d, im, h0, hs, rfl⟩
 · exact ⟨rfl, rfl⟩
 · exact szOf_lim L h0 hs
theorem Sml.lm {L' : List Dsk} {t : List UInt8} (h : Sml L) (hC : CS bits room L) (hl : Lm L t L') : Sml L' := Sml.of (hl.cs hC) fun n => by
 rw [(hl.sz n).1]
 exact h.sz n
theorem Sml.do (h : Sml L) (hC : CS bits room L) {o : Cop} (hb : cBad o = false) {p : Nat × Nat} : Sml (doD bits room L o p).L := by
 unfold doD
 split
 · by_cases he : (adC bits room L (cNm o) (cSz o) (cOt o) p).e = 0
   · obtain ⟨g1, g2, g3, g4⟩ := adC_ok he
     rw [g1]
     obtain ⟨⟨n1, n2⟩, _⟩ := newMay_get g4
     have hs : cSz o ≤ 12 := by
       unfold cBad at hb
       rcases Int.lt_or_le 12 (cSz o) with c | c
       · rw [decide_eq_true c, decide_eq_true n2] at hb
         cases hb
       · exact c
     intro d hd
     rcases List.mem_append.1 hd with hd | hd
     · exact h d hd
     · rw [List.mem_singleton] at hd
       subst hd
       show (List.replicate (cSz o).toNat s0).length ≤ 12
       rw [List.length_replicate]
       omega
   · have : (adC bits room L (cNm o) (cSz o) (cOt o) p).L = L := by
       unfold adC at he ⊢
       split
       · rfl
       · rename_i h1
         rw [if_neg h1] at he
         split
         · rfl
         · rename_i h2
           rw [if_neg h2] at he
           split
           · rfl
           · rename_i h3
             rw [if_neg h3] at he
             split
             · rfl
             · rename_i h4
               rw [if_neg h4] at he
               exact absurd rfl he
     rw [this]
     exact h
 · split
   · unfold rmC
     cases dk L (cNm o) with
     | none => exact h
     | some d =>
       simp only
       split
       · exact fun d hd => h d (ldel_mem hd)
       · exact h
   · split
     · unfold rbC
       split
       · exact h
       · split
         · exact h
         · split
           · intro d hd
             obtain ⟨e, he, rfl⟩ := List.mem_map.1 hd
             rw [rbD_im]
             exact h e he
           · exact h
     · split
       · exact h.lm hC (doW_lm hC _ _)
       · exact h
end
/-! ### few, of two lists -/
end Go.Proofs.YtojaemgabaehdaaGreat
/-!
  A cluster that is not written to reads as before, from whoever stands there; what a disk reads, cluster by cluster.
-/
namespace Go.Proofs.YtojaemgabaehdaaGreat
set_option linter.unusedVariables false
set_option linter.unusedSimpArgs false
set_option maxRecDepth 10000
open Go.RowKit Go.Proofs
/-! ### a cluster that is not written to reads as before, from whoever stands there -/
section
variable {bits room : Nat} {L : List Dsk} {nm t : List UInt8} {d : Dsk} {im : ImS} {k : Nat}
theorem seen_same (hd : dk L t = some d) (hl : im.t.length = d.im.t.length) (hk : Same d.im im k) : ∀ (ns : List (List UInt8)) (i : Nat), seenL bits (lim L t im none) k ns i = seenL bits L k ns i
 | [], _ => rfl
 | n :: ns, i => by
   have ih := seen_same hd hl hk ns (i + 1)
   show (match dk (lim L t im none) n with | none => ([], 0) | some d => if k < d.im.t.length ∧ (d.im.t.getD k s0).1 ≠ 0 then (clus d.im k none, i + 1) else seenL bits (lim L t im none) k ns (i + 1)) = match dk L n with | none => ([], 0) | some d => if k < d.im.t.length ∧ (d.im.t.getD k s0).1 ≠ 0 then (clus d.im k none, i + 1) else seenL bits L k ns (i + 1)
   by_cases e : n = t
   · subst e
     rw [dk_lim_self hd, hd, ih]
     have hg : im.t.getD k s0 = d.im.t.getD k s0 := by rw [List.getD_eq_getElem?_getD, List.getD_eq_getElem?_getD, hk.1]
     simp only
     rw [hl, hg, hk.2 none]
   · rw [dk_lim_ne e, ih]
theorem cseen_same (h : CS bits room L) (hd : dk L t = some d) (hl : im.t.length = d.im.t.length) (hk : Same d.im im k) (n : List UInt8) : cseen bits (lim L t im none) n (dpt (lim L t im none) n) k = cseen bits L n (dpt L n) k := by
 rw [dpt_lim h]
 unfold cseen
 rw [bl_lim, seen_same hd hl hk]
/-! ### what a disk reads, cluster by cluster -/
end
end Go.Proofs.YtojaemgabaehdaaGreat
