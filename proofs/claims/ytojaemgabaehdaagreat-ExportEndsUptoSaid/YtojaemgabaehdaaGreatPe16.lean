/-
Part 16 of the proof that stands in YtojaemgabaehdaaGreatPeRow, with what it needs from the parts ahead; the parts of this text: Bx, Di, Dx, Mo, Dz, Dw, Dv, Dm.
-/
import Derived.Test.YtojaemgabaehdaaGreatPe15
/-!
  Bitmaps: Resize.
-/
namespace Go.Proofs.YtojaemgabaehdaaGreat
set_option linter.unusedVariables false
set_option linter.unusedSimpArgs false
set_option maxRecDepth 10000
open Go.RowKit Go.Proofs
abbrev EnI (vu : U) := Nat × (El uI × El vu)
def kI {vu : U} (p : EnI vu) : Int := p.2.1
/-- The entries that are left behind those of 'seen': whoever was seen and is to go is gone. -/
def gone {vu : U} (n : Int) (seen : List Nat) (l : List (EnI vu)) : List (EnI vu) := l.filter fun p => !(seen.contains p.1 && decide (n ≤ kI p))
theorem gdel_filter {vu : U} : ∀ {l : List (EnI vu)} {p : EnI vu}, p ∈ l → (l.map (·.1)).Nodup → (l.map kI).Nodup → gdel l p.2.1 = l.filter fun q => !decide (q.1 = p.1)
 | [], _, h, _, _ => by cases h
 | q :: l, p, h, h1, h2 => by
   rw [List.map_cons, List.nodup_cons] at h1 h2
   unfold gdel
   rcases List.mem_cons.1 h with rfl | h
   · rw [List.eraseP_cons_of_pos (p := fun q : EnI vu => eqKey uI p.2.1 q.2.1) ((eqKey_int (k := .i64) _ _).2 rfl), List.filter_cons_of_neg (by simp)]
     refine (List.filter_eq_self.2 fun q hq => ?_).symm
     have : q.1 ≠ p.1 := fun e => h1.1 (by rw [← e]; exact List.mem_map_of_mem hq)
     simp [this]
   · have hne : ¬ eqKey uI p.2.1 q.2.1 = true := fun e => by
       have e : kI p = kI q := (eqKey_int (k := .i64) _ _).1 e
       exact h2.1 (by rw [← e]; exact List.mem_map_of_mem h)
     have hne2 : q.1 ≠ p.1 := fun e => h1.1 (by rw [e]; exact List.mem_map_of_mem h)
     have := gdel_filter h h1.2 h2.2
     unfold gdel at this
     rw [List.eraseP_cons_of_neg (p := fun q : EnI vu => eqKey uI p.2.1 q.2.1) hne, this, List.filter_cons_of_pos (by simp [hne2])]
theorem nodup_key {α β : Type} {f : α → β} : ∀ {l : List α}, (l.map f).Nodup → ∀ {p q : α}, p ∈ l → q ∈ l → f p = f q → p = q
 | [], _, _, _, h, _, _ => by cases h
 | a :: l, h, p, q, hp, hq, e => by
   rw [List.map_cons, List.nodup_cons] at h
   rcases List.mem_cons.1 hp with hp | hp <;> rcases List.mem_cons.1 hq with hq | hq
   · rw [hp, hq]
   · exact absurd (by rw [← hp, e]; exact List.mem_map_of_mem hq) h.1
   · exact absurd (by rw [← hq, ← e]; exact List.mem_map_of_mem hp) h.1
   · exact nodup_key h.2 hp hq e
theorem gone_step {vu : U} {n : Int} {seen : List Nat} {l : List (EnI vu)} {p : EnI vu} (hp : p ∈ gone n seen l) (h1 : (l.map (·.1)).Nodup) (h2 : (l.map kI).Nodup) (hn : p.1 ∉ seen) :
   (match decide (n ≤ kI p) with | true => gdel (gone n seen l) p.2.1 | false => gone n seen l) = gone n (seen ++ [p.1]) l := by
 have hpl : p ∈ l := (List.mem_filter.1 hp).1
 cases hd : decide (n ≤ kI p) with
 | true =>
   simp only
   rw [gdel_filter hp (h1.sublist (List.filter_sublist.map _)) (h2.sublist (List.filter_sublist.map _))]
   unfold gone
   rw [List.filter_filter]
   refine List.filter_congr fun q hq => ?_
   by_cases e : q.1 = p.1
   · have := nodup_key h1 hq hpl e
     subst this
     simp [hd]
   · simp [e]
 | false =>
   simp only
   unfold gone
   refine List.filter_congr fun q hq => ?_
   by_cases e : q.1 = p.1
   · have := nodup_key h1 hq hpl e
     subst this
     simp [hd]
   · simp [e]
theorem gone_all {vu : U} {n : Int} {seen : List Nat} {l : List (EnI vu)} (h : ∀ p ∈ gone n seen l, p.1 ∈ seen) : gone n seen l = l.filter fun p => decide (kI p < n) := by
 unfold gone at h ⊢
 refine List.filter_congr fun p hp => ?_
 by_cases hs : p.1 ∈ seen
 · rw [Bool.eq_iff_iff]; simp [hs]
 · exact absurd (h p (List.mem_filter.2 ⟨hp, by simp [hs]⟩)) hs
def unseen {vu : U} (seen : List Nat) (l : List (EnI vu)) : List (EnI vu) := l.filter fun p => !seen.contains p.1
theorem unseen_lt {vu : U} {seen : List Nat} {l : List (EnI vu)} {p : EnI vu} (hp : p ∈ l) (hn : p.1 ∉ seen) : (unseen (seen ++ [p.1]) l).length < (unseen seen l).length := by
 have e : unseen (seen ++ [p.1]) l = (unseen seen l).filter fun q => !decide (q.1 = p.1) := by
   unfold unseen
   rw [List.filter_filter]
   refine List.filter_congr fun q _ => ?_
   by_cases e : q.1 = p.1 <;> simp [e]
 rw [e]
 have hm : p ∈ unseen seen l := List.mem_filter.2 ⟨hp, by simp [hn]⟩
 exact List.length_filter_lt_length_iff_exists.2 ⟨p, hm, by simp⟩
theorem bzres1_fn (s g : Int) (o : Ob) (k v : Int) (hs : 0 ≤ s ∧ s ≤ 4096) (hg : 1 ≤ g ∧ g ≤ 64) : Fn Tryz.prog 303 [vI k, vI v, vP 3001] [(1001, .cells (bzC s g)), (1002, .obj o), (3001, .cells [.ptr 1001 0])] [] (vB (decide (bzG s g ≤ k))) [(1001, .cells (bzC s g)), (1002, .obj o), (3001, .cells [.ptr 1001 0])] := by
 have hgr := bzgranO_fn s g o hs hg
 refine Fn.of tblOK [] _ _ _ _ _ Tryz.func303 rfl rfl (by kernel_rfl) (by kernel_rfl) rfl (drawOK tblOK) rfl ?_
 refine ⟨_, _, _, _, hgr, ⟨rfl, rfl, trivial⟩, rfl, ?_⟩
 exact ⟨_, _, _, Le.refl _ _, rfl, rfl, ⟨rfl, rfl, rfl, trivial⟩, rfl⟩
@[reducible] def bdfK : KL := [(0, .c (.one (.mp 1002))), (1, .c (.one (.clo 303 [.p 3001 0]))), (7, vP 7)]
@[reducible] def bdfB (s g : Int) (b clock : Nat) (seen : List Nat) (l : List (EnI uI)) : BL := [(1001, .cells (bzC s g)), (1002, .obj (.mapG b uI uI l clock)), (7, .obj (.iterG b clock seen clock)), (3001, .cells [.ptr 1001 0])]
def bzCut (n : Int) (es : List (El uI × El uI)) : List (El uI × El uI) := es.filter fun p => decide ((show Int from p.1) < n)
set_option maxHeartbeats 1000000 in
theorem bzdelf_fn (s g : Int) (es : List (El uI × El uI)) (hs : 0 ≤ s ∧ s ≤ 4096) (hg : 1 ≤ g ∧ g ≤ 64) (hn : (es.map fun p => (show Int from p.1)).Nodup) :
   Fn Tryz.prog 302 [.c (.one (.mp 1002)), .c (.one (.clo 303 [.p 3001 0]))] (bzX s g es) [] vU (bzX s g (bzCut (bzG s g) es)) := by
 refine Fn.of tblOK [0] _ _ _ _ _ Tryz.func302 rfl rfl (by kernel_rfl) (by kernel_rfl) rfl (drawOK tblOK) rfl ?_
 show TrQ _ _ _ _ _ _ _
 refine TrQ.leX (LeX.nameMap 1002 rfl) fun x => ?_
 obtain ⟨b, l, clock, hsnd, hrise, hlt⟩ := x
 refine TrQ.go tblOK (drawOK tblOK) [] (by kernel_rfl) (Le.refl _ _) ?_
 refine ⟨_, _, fun N => opOK_range (d := 7) rfl Tryz.underlying251 rfl rfl N, rfl, ?_⟩
 show TrQ _ _ _ _ _ _ _
 have hb : (l.map (·.1)).Nodup := hrise.imp fun h => by omega
 have hk : (l.map kI).Nodup := by
   rw [← hsnd, List.map_map] at hn
   exact hn
 refine TrQ.loop tblOK (drawOK tblOK) [1, 4] (by kernel_rfl) (X := List Nat) (fun _ => bdfK) (fun seen => bdfB s g b clock seen (gone (bzG s g) seen l)) (fun _ => True) (fun seen => (unseen seen l).length) [] trivial ?_ ?_
 · refine Le.sub ⟨rfl, rfl, rfl, trivial⟩ ⟨rfl, ?_, rfl, rfl, trivial⟩
   have : gone (bzG s g) [] l = l := List.filter_eq_self.2 fun p _ => by simp
   rw [this]
   rfl
 intro seen _
 show TrQ _ _ _ _ _ _ _
 refine TrQ.regionX tblOK (by kernel_rfl) ?_
 refine ⟨_, opS_next (c := 1002) (r := 7) rfl rfl rfl rfl (fun p hp => hlt _ (List.mem_map_of_mem (List.mem_filter.1 hp).1)) (Nat.le_refl _), fun v e h => ?_⟩
 rcases h with ⟨p, hp, hs1, rfl, rfl⟩ | ⟨hall, rfl, rfl⟩
 · have hst := gone_step hp hb hk hs1
   have hpl : p ∈ l := (List.mem_filter.1 hp).1
   refine ⟨_, _, fun N => opOK_entry (c := 1002) (r := 7) (p := p) rfl rfl rfl rfl hp N, rfl, ?_⟩
   refine ⟨_, _, _, _, bzres1_fn s g _ p.2.1 p.2.2 hs hg, ⟨rfl, rfl, rfl, trivial⟩, rfl, ?_⟩
   refine ⟨fun h2 => ?_, fun h2 => ?_⟩
   · have h2 : decide (bzG s g ≤ kI p) = true := h2
     rw [h2] at hst
     show TrQ _ _ _ _ _ _ _
     refine TrQ.regionX tblOK (by kernel_rfl) ?_
     refine ⟨_, OpS.of fun N => opOK_gdelete (c := 1002) (ku := uI) (vu := uI) (key := p.2.1) rfl Tryz.underlying251 (d := .int .i64) (by kernel_rfl) rfl rfl rfl rfl N, fun v e h => ?_⟩
     obtain ⟨rfl, rfl⟩ := h
     refine ⟨seen ++ [p.1], trivial, unseen_lt hpl hs1, Le.sub ⟨rfl, rfl, rfl, trivial⟩ ⟨rfl, ?_, rfl, rfl, trivial⟩⟩
     rw [← hst]
     rfl
   · have h2 : decide (bzG s g ≤ kI p) = false := h2
     rw [h2] at hst
     refine ⟨seen ++ [p.1], trivial, unseen_lt hpl hs1, Le.sub ⟨rfl, rfl, rfl, trivial⟩ ⟨rfl, ?_, rfl, rfl, trivial⟩⟩
     rw [← hst]
     rfl
 · refine ⟨_, _, _, Le.mapOf 1002 rfl, rfl, trivial, ⟨rfl, ?_, rfl, trivial⟩, rfl⟩
   rw [gone_all hall]
   show some (Ch.map uI uI (List.map (·.2) (l.filter fun p => decide (kI p < bzG s g)))) = _
   rw [← hsnd]
   unfold bzCut
   rw [List.filter_map]
   rfl
def bzRes (s g : Int) (es : List (El uI × El uI)) (s' : Int) : List (El uI × El uI) := if s < s' then bzSet s' g (bzCut (bzG s' g) es) s (s' - s) else bzCut (bzG s' g) es
theorem bzresize_fn (s g : Int) (es : List (El uI × El uI)) (s' : Int) (hs : 0 ≤ s ∧ s ≤ 4096) (hs' : 0 ≤ s' ∧ s' ≤ 4096) (hg : 1 ≤ g ∧ g ≤ 64) (hn : (es.map fun p => (show Int from p.1)).Nodup) :
   Fn Tryz.prog 247 [vP 1001, vI s'] (bzB s g es) [] (vI 0) (bzB s' g (bzRes s g es s')) := by
 have hr := bzright_fn s'
 rw [decide_eq_true hs'.1, decide_eq_true hs'.2] at hr
 have hd := bzdelf_fn s' g es hs' hg hn
 have hset := bzset_fn s' g (bzCut (bzG s' g) es) s (s' - s) hs' hg
 have m1 : (-9223372036854775808 : Int) ≤ s' - s ∧ s' - s ≤ 9223372036854775807 := by omega
 unfold bzRes
 refine Fn.of tblOK [] _ _ _ _ _ Tryz.func247 rfl rfl (by kernel_rfl) (by kernel_rfl) rfl (drawOK tblOK) rfl ?_
 refine ⟨rfl, ?_⟩
 refine ⟨_, _, _, _, hr, trivial, rfl, ?_⟩
 refine ⟨fun h => absurd h (by decide), fun _ => ?_⟩
 refine ⟨_, _, _, _, Fn.ren [(3001, 2)] hd, ⟨rfl, rfl, rfl, trivial⟩, rfl, ?_⟩
 refine ⟨fun hc => ?_, fun hc => ?_⟩
 · have hc : s < s' := of_decide_eq_true hc
   rw [if_pos hc]
   refine ⟨m1, ?_⟩
   refine ⟨_, _, _, _, hset, ⟨rfl, rfl, trivial⟩, rfl, ?_⟩
   exact ⟨_, _, _, Le.refl _ _, rfl, rfl, ⟨rfl, rfl, trivial⟩, rfl⟩
 · have hc : ¬ s < s' := of_decide_eq_false hc
   rw [if_neg hc]
   exact ⟨_, _, _, Le.refl _ _, rfl, rfl, ⟨rfl, rfl, trivial⟩, rfl⟩
/-! ### who has each key once -/
theorem knd_nodup {es : List (El uI × El uI)} (h : KNd es) : (es.map fun p => (show Int from p.1)).Nodup := by
 unfold KNd at h
 refine List.pairwise_map.2 (h.imp fun {p q} hpq e => ?_)
 have e : p.1 = q.1 := e
 rw [e] at hpq
 have := (eqKey_int (k := .i64) q.1 q.1).2 rfl
 rw [this] at hpq
 cases hpq
theorem bzPut_nd {es : List (El uI × El uI)} (h : KNd es) (f : Int) : ∀ n, KNd (bzPut es f n)
 | 0 => h
 | n + 1 => KNd.put eqKey_int (bzPut_nd h f n)
theorem bzSet_nd {s g : Int} {es : List (El uI × El uI)} (h : KNd es) (fr lg : Int) : KNd (bzSet s g es fr lg) := by
 unfold bzSet
 split
 · exact bzPut_nd h _ _
 · exact h
theorem bzDel_nd {es : List (El uI × El uI)} (h : KNd es) (f : Int) : ∀ n, KNd (bzDel es f n)
 | 0 => h
 | n + 1 => KNd.del (bzDel_nd h f n)
theorem bzCut_nd {es : List (El uI × El uI)} (h : KNd es) (n : Int) : KNd (bzCut n es) := h.filter _
theorem bzRes_nd {s g : Int} {es : List (El uI × El uI)} (h : KNd es) (s' : Int) : KNd (bzRes s g es s') := by
 unfold bzRes
 split
 · exact bzSet_nd (bzCut_nd h _) _ _
 · exact bzCut_nd h _
theorem mgN_nd {s g : Int} {es : List (El uI × El uI)} (h : KNd es) (m : List Xt) (i : Nat) : KNd (mgN s g es m i) := by
 unfold mgN
 generalize m.take i = l
 induction l generalizing es with
 | nil => exact h
 | cons x l ih =>
   refine ih (es := mgF s g es x) ?_
   unfold mgF
   split
   · exact bzSet_nd h _ _
   · exact h
end Go.Proofs.YtojaemgabaehdaaGreat
/-!
  Directories: the model; New, Names, Add, Remove, Switch, Clear.
-/
namespace Go.Proofs.YtojaemgabaehdaaGreat
set_option linter.unusedVariables false
set_option linter.unusedSimpArgs false
set_option maxRecDepth 10000
open Go.RowKit Go.Proofs Go.Maps Go.Shelf Go.MapKept
open Go.WideElems (Fit rd rg pl rd_val rd_key rg_of)
theorem mapsKeysE_fn (es : List (El .str × El .adr)) : Fn Tryz.prog 311 [.c (.one (.mp 1001))] [(1001, .map .str .adr es)] [2001] (.c (.one (.clo 349 [.p 2001 0]))) [(2001, .cells [.mp 1001]), (1001, .map .str .adr es)] := by
 refine Fn.of tblOK [] _ _ _ _ _ Tryz.func311 rfl rfl (by kernel_rfl) (by kernel_rfl) rfl (drawOK tblOK) rfl ?_
 refine ⟨rfl, ?_⟩
 exact ⟨_, _, _, Le.ren 1 2001 rfl, rfl, rfl, ⟨rfl, rfl, trivial⟩, rfl⟩
theorem sortedKeysE_fn (es : List (El .str × El .adr)) (hn : (mkeys es).Nodup) (hl : ∀ s ∈ mkeys es, s.length ≤ maxLen) (hs : es.length ≤ 4294967296) :
   Fn Tryz.prog 109 [.c (.one (.clo 349 [.p 2001 0]))] [(2001, .cells [.mp 1001]), (1001, .map .str .adr es)] [] (vL .str (keysS es)) [(2001, .cells [.mp 1001]), (1001, .map .str .adr es)] := by
 refine ⟨by kernel_rfl, fun ρ F I w vals hI hH hF hdj hlen hden => ?_⟩
 match vals, hlen with
 | [v], _ =>
   obtain ⟨vs, hv, w0, r, hvs, hw0, hr⟩ := hden 0 _ v rfl rfl
   have hr : r = [] := hr
   have hw0 : w0 = .pointer (some ⟨(ρ 2001).blk, 0, none⟩) := hw0
   subst hr hw0 hvs hv
   obtain ⟨_, vs, T, hb1, hvs⟩ := hH 2001 _ rfl
   obtain ⟨x, r, hvs, hx, hr⟩ := hvs
   have hr : r = [] := hr
   have hx : x = .map (some (ρ 1001).blk) := hx
   subst hr hx hvs
   obtain ⟨_, ents, clock, hb2, hm, hB⟩ := hH 1001 _ rfl
   have hmaxl : (4294967296 : Nat) ≤ maxLen := by decide
   obtain ⟨D0, hown, hsz, hperm⟩ := owns_of_map (P := Tryz.prog) (k := 9) (by kernel_rfl) hb2 hm hB hn hl (by omega)
   have hlt : (ρ 2001).blk < w.heap.size := lt_of_heap hb1
   have hseq : SeqGives Fence.wide 2 Tryz.prog 349 #[.pointer (some ⟨(ρ 2001).blk, 0, none⟩)] encStr (fun ss => ss.Perm (strKeys D0)) (Maps.size D0) w :=
     AnyZ.keys_gives (ρ := Tryz.keys311_ren) { Tryz.keys311 with } Fence.wide _ trivial rfl (by omega) (ρ 2001).blk (ρ 1001).blk es.length D0 w hlt (cell_of hb1 rfl) hown
   have hc := AnyZ.sorted_in Tryz.sorted109 Fence.wide 5 trivial trivial trivial trivial rfl (by omega) (sortsIn _) (enters_of Tryz.func200 (by kernel_rfl) rfl) 349 #[.pointer (some ⟨(ρ 2001).blk, 0, none⟩)] trivial (enters_of Tryz.func349 (by kernel_rfl) rfl) _ _ (by rw [hsz]; omega) (by rw [hsz]; omega) _ hseq
   refine (callsIn_wide.1 hc).mono ?_
   rintro e w' ⟨v, ss, rfl, hS, hrow, hnil, hbel⟩
   have hE : Ext I w (fun b => b < w'.heap.size ∧ (I b ∨ w.heap.size ≤ b)) w' := fun b hbI => ⟨⟨Nat.lt_of_lt_of_le (hI b hbI) hbel.size, .inl hbI⟩, hbel.block b (hI b hbI)⟩
   refine ⟨v, ρ, F, rfl, Fr.of_below hbel, fun _ _ => rfl, _, hE, fun b h => ⟨h.1, h.2.imp id .inr⟩, fun c ch hc => Holds.stable hE (fun b hb => hbel.block b (hF c ch hc b hb).1) hbel.size ch (fun _ _ => rfl) (hH c ch hc), fun c ch hc b hb => ?_, fun c c' ch ch' b h1 h2 => hdj c c' ch ch' b h1 h2, ?_⟩
   · have := hF c ch hc b hb
     exact ⟨Nat.lt_of_lt_of_le this.1 hbel.size, fun h => (by rcases h.2 with h | h; exact this.2 h; omega), .inl ⟨c, ch, hc, hb⟩⟩
   · have hk : ss.mergeSort (fun x y => decide (x ≤ y)) = keysS es := Go.mergeSort_of_perm (hS.trans hperm)
     rw [hk] at hrow
     have hsl := Sl.of_own hrow
     have hln : ss.length = (keysS es).length := by rw [← hk, List.length_mergeSort]
     rw [hln] at hsl
     exact (hsl.weaken fun i _ hi => (hrow.lt i hi).1).denStr fun b h1 h2 => ⟨h1, .inr h2⟩
/-- An entry: its name, where its block lies, where its bits lie; how it stands; its bits. -/
structure DEn where
 nm : List UInt8
 ad : Nat
 ab : Nat
 on : Bool
 us : Bool
 s : Int
 g : Int
 es : List (El uI × El uI)
@[reducible] def enE (e : DEn) : El .str × El .adr := ((e.nm : El .str), (some e.ad : El .adr))
@[reducible] def enL (nm : List UInt8) (on us : Bool) (ab : Nat) : List S1 := [.d (.str nm), .d (.bool on), .d (.bool us), .d (.adr (some ab))]
def enO (nm : List UInt8) (on us : Bool) (ab : Nat) : Ob := Ob.ch (.cells (enL nm on us ab)) (fun _ => rfl)
def bzO (s g : Int) (es : List (El uI × El uI)) : Ob := Ob.grp 1001 (bzB s g es)
def dE (l : List DEn) : List (El .str × El .adr) := l.map enE
@[reducible] def fD (e : DEn) : Nat × Ob := (e.ad, enO e.nm e.on e.us e.ab)
@[reducible] def fM (e : DEn) : Nat × Ob := (e.ab, bzO e.s e.g e.es)
def dD (l : List DEn) : List (Nat × Ob) := l.map fD
def dM (l : List DEn) : List (Nat × Ob) := l.map fM
@[reducible] def dirB (l : List DEn) : BL := [(1001, .cells [.mp 1002]), (1002, .map .str .adr (dE l)), (1003, .obj (.pool (dD l))), (1004, .obj (.pool (dM l)))]
def ek (l : List DEn) (nm : List UInt8) : Option DEn := l.find? fun e => decide (e.nm = nm)
theorem ek_cons (d : DEn) (L : List DEn) (nm : List UInt8) : ek (d :: L) nm = if d.nm = nm then some d else ek L nm := by
 unfold ek
 rw [List.find?_cons]
 by_cases e : d.nm = nm
 · rw [decide_eq_true e, if_pos e]
 · rw [decide_eq_false e, if_neg e]
theorem ek_get {l : List DEn} {nm : List UInt8} {e : DEn} (h : ek l nm = some e) : e ∈ l ∧ e.nm = nm := ⟨List.mem_of_find?_eq_some h, by have := List.find?_some h; simpa using this⟩
theorem eget (nm : List UInt8) : ∀ L : List DEn, (mget (ku := .str) (vu := .adr) (dE L) nm).getD (dflt .adr) = ((ek L nm).map (·.ad) : Option Nat)
 | [] => rfl
 | d :: L => by
   have ih := eget nm L
   show (mget (ku := .str) (vu := .adr) (enE d :: dE L) nm).getD (dflt .adr) = _
   rw [ek_cons]
   rw [show mget (ku := .str) (vu := .adr) (enE d :: dE L) nm = match eqKey .str (nm : El .str) (enE d).1 with | true => some (enE d).2 | false => mget (ku := .str) (vu := .adr) (dE L) nm from rfl]
   by_cases e : d.nm = nm
   · rw [show eqKey .str (nm : El .str) (enE d).1 = true from (eqKey_str _ _).2 e.symm, if_pos e]
     rfl
   · rw [show eqKey .str (nm : El .str) (enE d).1 = false from eqKey_ne (ku := .str) eqKey_str (fun h => e h.symm), if_neg e]
     exact ih
theorem pget_mapE {f : DEn → Nat × Ob} : ∀ {L : List DEn}, (L.map fun d => (f d).1).Nodup → ∀ {d : DEn}, d ∈ L → pget (L.map f) (f d).1 = some (f d).2
 | [], _, d, h => by cases h
 | e :: L, hn, d, h => by
   rw [List.map_cons] at hn
   obtain ⟨n1, n2⟩ := List.nodup_cons.1 hn
   rw [List.map_cons]
   unfold pget
   rcases List.mem_cons.1 h with rfl | h
   · rw [if_pos rfl]
   · rw [if_neg (fun e => n1 (by rw [e]; exact List.mem_map_of_mem (f := fun d => (f d).1) h))]
     exact pget_mapE n2 h
/-- One in the pool, turned. -/
theorem pset_mapE {f : DEn → Nat × Ob} {u : DEn → DEn} : ∀ {L : List DEn}, (L.map fun d => (f d).1).Nodup → ∀ {d : DEn}, d ∈ L → (f (u d)).1 = (f d).1 → pset (L.map f) (f d).1 (f (u d)).2 = (L.map fun x => if (f x).1 = (f d).1 then u x else x).map f
 | [], _, d, h, _ => by cases h
 | e :: L, hn, d, h, hk => by
   rw [List.map_cons] at hn
   obtain ⟨n1, n2⟩ := List.nodup_cons.1 hn
   rw [List.map_cons, List.map_cons, List.map_cons]
   unfold pset
   rcases List.mem_cons.1 h with rfl | h
   · rw [if_pos rfl, if_pos rfl]
     have hrest : (L.map fun x => if (f x).1 = (f d).1 then u x else x) = L := by
       refine (List.map_congr_left fun x hx => ?_).trans (List.map_id' L)
       rw [if_neg fun e => n1 (by rw [← e]; exact List.mem_map_of_mem (f := fun d => (f d).1) hx)]
     rw [hrest]
     congr 1
     exact Prod.ext hk.symm rfl
   · have hne : ¬ (f e).1 = (f d).1 := fun e2 => n1 (by rw [e2]; exact List.mem_map_of_mem (f := fun d => (f d).1) h)
     rw [if_neg hne, if_neg hne, pset_mapE n2 h hk]
/-- An entry turned, by its address. -/
def eupd (l : List DEn) (a : Nat) (u : DEn → DEn) : List DEn := l.map fun x => if x.ad = a then u x else x
/-- A directory that nobody broke. -/
structure DOK (l : List DEn) : Prop where
 nms : (l.map (·.nm)).Nodup
 ads : (l.map (·.ad)).Nodup
 abs : (l.map (·.ab)).Nodup
 ok : ∀ e, e ∈ l → (0 ≤ e.s ∧ e.s ≤ 4096) ∧ (1 ≤ e.g ∧ e.g ≤ 64) ∧ KNd e.es ∧ e.nm.length ≤ 64
 len : l.length ≤ 8
theorem nodup_inj {α β : Type} {f : α → β} : ∀ {l : List α}, (l.map f).Nodup → ∀ {p q : α}, p ∈ l → q ∈ l → f p = f q → p = q
 | [], _, _, _, h, _, _ => by cases h
 | a :: l, h, p, q, hp, hq, e => by
   rw [List.map_cons, List.nodup_cons] at h
   rcases List.mem_cons.1 hp with hp | hp <;> rcases List.mem_cons.1 hq with hq | hq
   · rw [hp, hq]
   · exact absurd (by rw [← hp, e]; exact List.mem_map_of_mem hq) h.1
   · exact absurd (by rw [← hq, ← e]; exact List.mem_map_of_mem hp) h.1
   · exact nodup_inj h.2 hp hq e
theorem DOK.D {l : List DEn} (h : DOK l) {e : DEn} (he : e ∈ l) : pget (dD l) e.ad = some (enO e.nm e.on e.us e.ab) := pget_mapE (f := fD) h.ads he
theorem DOK.M {l : List DEn} (h : DOK l) {e : DEn} (he : e ∈ l) : pget (dM l) e.ab = some (bzO e.s e.g e.es) := pget_mapE (f := fM) h.abs he
theorem eupd_E {l : List DEn} {a : Nat} {u : DEn → DEn} (h1 : ∀ e, (u e).nm = e.nm) (h2 : ∀ e, (u e).ad = e.ad) : dE (eupd l a u) = dE l := by
 unfold dE eupd
 rw [List.map_map]
 refine List.map_congr_left fun x _ => ?_
 show enE (if x.ad = a then u x else x) = enE x
 split
 · unfold enE; rw [h1, h2]
 · rfl
theorem eupd_D {l : List DEn} (h : DOK l) {e : DEn} (he : e ∈ l) {u : DEn → DEn} (h2 : (u e).ad = e.ad) : pset (dD l) e.ad (enO (u e).nm (u e).on (u e).us (u e).ab) = dD (eupd l e.ad u) :=
 pset_mapE (f := fD) (u := u) h.ads he h2
theorem eupd_M {l : List DEn} (h : DOK l) {e : DEn} (he : e ∈ l) {u : DEn → DEn} (h2 : (u e).ab = e.ab) : pset (dM l) e.ab (bzO (u e).s (u e).g (u e).es) = dM (eupd l e.ad u) := by
 refine (pset_mapE (f := fM) (u := u) h.abs he h2).trans ?_
 unfold dM eupd
 congr 1
 refine List.map_congr_left fun x hx => ?_
 by_cases hc : x.ad = e.ad
 · have := nodup_inj h.ads hx he hc
   subst this
   rw [if_pos rfl, if_pos rfl]
 · rw [if_neg hc, if_neg fun e2 => hc (by rw [nodup_inj h.abs hx he e2])]
theorem eupd_M0 {l : List DEn} {a : Nat} {u : DEn → DEn} (h1 : ∀ e, (u e).ab = e.ab ∧ (u e).s = e.s ∧ (u e).g = e.g ∧ (u e).es = e.es) : dM (eupd l a u) = dM l := by
 unfold dM eupd
 rw [List.map_map]
 refine List.map_congr_left fun x _ => ?_
 show fM (if x.ad = a then u x else x) = fM x
 split
 · obtain ⟨a1, a2, a3, a4⟩ := h1 x
   unfold fM
   rw [a1, a2, a3, a4]
 · rfl
theorem DOK.upd {l : List DEn} (h : DOK l) {a : Nat} {u : DEn → DEn} (h1 : ∀ e, (u e).nm = e.nm ∧ (u e).ad = e.ad ∧ (u e).ab = e.ab) (h2 : ∀ e, e ∈ l → e.ad = a → (0 ≤ (u e).s ∧ (u e).s ≤ 4096) ∧ (1 ≤ (u e).g ∧ (u e).g ≤ 64) ∧ KNd (u e).es) : DOK (eupd l a u) := by
 have key : ∀ {β : Type} (f : DEn → β), (∀ e, f (u e) = f e) → (eupd l a u).map f = l.map f := fun f hf => by
   unfold eupd
   rw [List.map_map]
   refine List.map_congr_left fun x _ => ?_
   show f (if x.ad = a then u x else x) = f x
   split
   · exact hf x
   · rfl
 refine ⟨by rw [key _ fun e => (h1 e).1]; exact h.nms, by rw [key _ fun e => (h1 e).2.1]; exact h.ads, by rw [key _ fun e => (h1 e).2.2]; exact h.abs, fun e he => ?_, by unfold eupd; rw [List.length_map]; exact h.len⟩
 obtain ⟨x, hx, rfl⟩ := List.mem_map.1 he
 by_cases hc : x.ad = a
 · rw [if_pos hc]
   obtain ⟨b1, b2, b3⟩ := h2 x hx hc
   exact ⟨b1, b2, b3, by rw [(h1 x).1]; exact (h.ok x hx).2.2.2⟩
 · rw [if_neg hc]
   exact h.ok x hx
/-! ### contracts on the bits of the pool -/
theorem bzPool {f : FuncId} {args : List SV} {res : SV} {s g s' g' : Int} {es es' : List (El uI × El uI)} {M : List (Nat × Ob)} {b : Nat} (h : Fn Tryz.prog f (vP 1001 :: args) (bzB s g es) [] res (bzB s' g' es')) (hM : pget M b = some (bzO s g es))
   (h1 : closeIn 1001 [1002] (vP 1001 :: args) (bzB s g es) [] [] [] = true) (h2 : closeOut 1001 (hidOf [1002] [] []) res (bzB s' g' es') [] = true) (h3 : (args.all fun v => !v.has 1001) = true) (h4 : (!res.has 1001) = true) :
   Fn Tryz.prog f (vAd b :: args) [(1004, .obj (.pool M))] [] res [(1004, .obj (.pool (pset M b (bzO s' g' es'))))] := by
 have hc : Fn Tryz.prog f (vP 1001 :: args) [(1001, .obj (bzO s g es))] [] res [(1001, .obj (bzO s' g' es'))] := Fn.close (Bl := bzB s g es) (Bl' := bzB s' g' es') (Bi := []) (Bo := []) [1002] (by simpa using h) (fun _ _ _ _ h => h) (fun _ _ _ _ h => h) h1 h2
 exact (FnX.pool (c := 1001) (q := 1004) (b := b) (args := args) (Bi := []) (nw := []) (X := Unit) (res := fun _ => res) (Bo := fun _ => []) (o := bzO s g es) (o' := fun _ => bzO s' g' es') (L := M) hc.x hM h3 ⟨rfl, rfl⟩ rfl (fun _ => h4)).fn
/-! ### New, Names -/
theorem dnew_fn : Fn Tryz.prog 73 [] [] [1001, 1002, 1003, 1004] (vP 1001) (dirB []) := by
 refine Fn.of tblOK [] _ _ _ _ _ Tryz.func73 rfl rfl (by kernel_rfl) (by kernel_rfl) rfl (drawOK tblOK) rfl ?_
 refine ⟨rfl, ?_⟩
 refine ⟨rfl, ?_⟩
 exact ⟨_, _, _, Le.trans (Le.ren 3 1001 rfl) (Le.trans (Le.ren 1 1002 rfl) (Le.trans (Le.emp 1003 rfl) (Le.emp 1004 rfl))), rfl, rfl, ⟨rfl, rfl, rfl, rfl, trivial⟩, rfl⟩
theorem mkeys_dE (l : List DEn) : mkeys (dE l) = l.map (·.nm) := by
 unfold mkeys dE
 rw [List.map_map]
 rfl
def dNms (l : List DEn) : List (List UInt8) := keysS (dE l)
theorem dNms_len (l : List DEn) : (dNms l).length = l.length := by
 unfold dNms keysS
 rw [List.length_mergeSort, mkeys_dE, List.length_map]
theorem dnames_fn {l : List DEn} (h : DOK l) : Fn Tryz.prog 261 [vP 1001] (dirB l) [] (vL .str (dNms l)) (dirB l) := by
 have hk : (mkeys (dE l)).Nodup := by rw [mkeys_dE]; exact h.nms
 have hm : ∀ s ∈ mkeys (dE l), s.length ≤ maxLen := fun s hs => by
   rw [mkeys_dE] at hs
   obtain ⟨d, hd, rfl⟩ := List.mem_map.1 hs
   exact Nat.le_trans (h.ok d hd).2.2.2 (by decide)
 have hs : (dE l).length ≤ 4294967296 := by unfold dE; rw [List.length_map]; have := h.len; omega
 refine Fn.of tblOK [] _ _ _ _ _ Tryz.func261 rfl rfl (by kernel_rfl) (by kernel_rfl) rfl (drawOK tblOK) rfl ?_
 refine ⟨_, _, _, _, Fn.ren [(1001, 1002), (2001, 5001)] (mapsKeysE_fn (dE l)), ⟨rfl, trivial⟩, rfl, ?_⟩
 refine ⟨_, _, _, _, Fn.ren [(1001, 1002), (2001, 5001)] (sortedKeysE_fn (dE l) hk hm hs), ⟨rfl, rfl, trivial⟩, rfl, ?_⟩
 exact ⟨_, _, _, Le.refl _ _, rfl, rfl, ⟨rfl, rfl, rfl, rfl, trivial⟩, rfl⟩
/-! ### the closures -/
theorem infBool : (Tryz.prog.info? 4).map (·.size) = some 1 := by kernel_rfl
theorem infBz : (Tryz.prog.info? 135).map (·.size) = some 1 := by kernel_rfl
theorem boolCell {I : Nat → Prop} {w : World} {b : Bool} {z : Value} (h : Den I w (.bool b) z) : z.cells = List.toArray [z] ∧ z.oneCell' = true := by
 have h : z = .bool b := h
 subst h
 exact ⟨rfl, rfl⟩
theorem litCell {I : Nat → Prop} {w : World} {b : Bool} {z : Value} (h : Den I w (.lit b) z) : z.cells = List.toArray [z] ∧ z.oneCell' = true := by
 have h : z = .bool b := h
 subst h
 exact ⟨rfl, rfl⟩
theorem dsw1_fn {l : List DEn} (h : DOK l) {e : DEn} (he : e ∈ l) (on : Bool) : Fn Tryz.prog 243 [vAd e.ad, vP 3001] (dirB l ++ [(3001, .cells [.d (.bool on)])]) [] vU (dirB (eupd l e.ad fun x => { x with on := on }) ++ [(3001, .cells [.d (.bool on)])]) := by
 obtain ⟨ia, ia1, ia2⟩ := inf_of infBool
 have hD := h.D he
 have eE := eupd_E (l := l) (a := e.ad) (u := fun x => { x with on := on }) (fun _ => rfl) (fun _ => rfl)
 have eD := eupd_D h he (u := fun x => { x with on := on }) rfl
 have eM := eupd_M0 (l := l) (a := e.ad) (u := fun x => { x with on := on }) (fun _ => ⟨rfl, rfl, rfl, rfl⟩)
 refine Fn.of tblOK [] _ _ _ _ _ Tryz.func243 rfl rfl (by kernel_rfl) (by kernel_rfl) rfl (drawOK tblOK) rfl ?_
 refine ⟨_, _, fun N => opOK_nilAdr (b := e.ad) rfl rfl N, rfl, ?_⟩
 refine ⟨_, _, fun N => opOK_fieldAdr rfl Tryz.underlying276 rfl rfl ia1 (by rw [ia2]; decide) rfl N, rfl, ?_⟩
 refine ⟨_, _, fun N => opOK_storeRaw (q := 1003) (b := e.ad) (j := 1) (y := .bool on) (l := enL e.nm e.on e.us e.ab) (h' := fun _ => rfl) rfl ia1 ia2 rfl rfl rfl hD (show 1 < 4 by decide) boolCell N, rfl, ?_⟩
 exact ⟨_, _, _, Le.refl _ _, rfl, trivial, ⟨rfl, congrArg (fun e => some (Ch.map .str .adr e)) eE.symm, congrArg (fun e => some (Ch.obj (.pool e))) eD, congrArg (fun e => some (Ch.obj (.pool e))) eM.symm, rfl, trivial⟩, rfl⟩
def clrE (x : DEn) : DEn := { x with us := true, es := bzClr x.s x.g x.es }
theorem dclr1_fn {l : List DEn} (h : DOK l) {e : DEn} (he : e ∈ l) : Fn Tryz.prog 244 [vAd e.ad] (dirB l) [] vU (dirB (eupd l e.ad clrE)) := by
 obtain ⟨ia, ia1, ia2⟩ := inf_of infBool
 obtain ⟨ib, ib1, ib2⟩ := inf_of infBz
 obtain ⟨k1, k2, k3, k4⟩ := h.ok e he
 have hD := h.D he
 have hM := h.M he
 have eE := eupd_E (l := l) (a := e.ad) (u := clrE) (fun _ => rfl) (fun _ => rfl)
 have eD := eupd_D h he (u := clrE) rfl
 have eM := eupd_M h he (u := clrE) rfl
 have hs := bzPool (bzsec_fn e.s e.g e.es) hM rfl rfl rfl rfl
 rw [pset_self hM] at hs
 have hc := bzPool (bzclear_fn e.s e.g e.es k1 k2) hM rfl rfl rfl rfl
 refine Fn.of tblOK [] _ _ _ _ _ Tryz.func244 rfl rfl (by kernel_rfl) (by kernel_rfl) rfl (drawOK tblOK) rfl ?_
 refine ⟨_, _, fun N => opOK_nilAdr (b := e.ad) rfl rfl N, rfl, ?_⟩
 refine ⟨_, _, fun N => opOK_fieldAdr rfl Tryz.underlying276 rfl rfl ib1 (by rw [ib2]; decide) rfl N, rfl, ?_⟩
 refine ⟨_, _, fun N => opOK_loadRaw (q := 1003) rfl Tryz.underlying135 rfl rfl rfl hD rfl N, rfl, ?_⟩
 refine ⟨_, _, fun N => opOK_nilAdr (b := e.ad) rfl rfl N, rfl, ?_⟩
 refine ⟨_, _, fun N => opOK_fieldAdr rfl Tryz.underlying276 rfl rfl ib1 (by rw [ib2]; decide) rfl N, rfl, ?_⟩
 refine ⟨_, _, fun N => opOK_loadRaw (q := 1003) rfl Tryz.underlying135 rfl rfl rfl hD rfl N, rfl, ?_⟩
 refine ⟨_, _, _, _, hs, ⟨rfl, trivial⟩, rfl, ?_⟩
 refine ⟨_, _, _, _, hc, ⟨rfl, trivial⟩, rfl, ?_⟩
 refine ⟨indep_of (by kernel_rfl), ?_⟩
 refine ⟨_, _, fun N => opOK_nilAdr (b := e.ad) rfl rfl N, rfl, ?_⟩
 refine ⟨_, _, fun N => opOK_fieldAdr rfl Tryz.underlying276 rfl rfl ia1 (by rw [ia2]; decide) rfl N, rfl, ?_⟩
 refine ⟨_, _, fun N => opOK_storeRaw (q := 1003) (b := e.ad) (j := 2) (y := .lit true) (l := enL e.nm e.on e.us e.ab) (h' := fun _ => rfl) rfl ia1 ia2 rfl rfl rfl hD (show 2 < 4 by decide) litCell N, rfl, ?_⟩
 exact ⟨_, _, _, Le.refl _ _, rfl, trivial, ⟨rfl, congrArg (fun e => some (Ch.map .str .adr e)) eE.symm, congrArg (fun e => some (Ch.obj (.pool e))) eD, congrArg (fun e => some (Ch.obj (.pool e))) eM, trivial⟩, rfl⟩
end Go.Proofs.YtojaemgabaehdaaGreat
/-!
  A new object goes into a pool, its address is told; a struct is read by its address; bits, copied.
-/
namespace Go.Proofs.YtojaemgabaehdaaGreat
set_option linter.unusedVariables false
set_option linter.unusedSimpArgs false
set_option maxRecDepth 10000
open Go.RowKit Go.Proofs
section
variable {P : Program} {ids : List Nat} {K : KL} {B : BL}
theorem opOK_loadAgg {o : Oper} {T : TypeId} {x : Operand} {q b : Nat} {L : List (Nat × Ob)} {l : List S1} {h : ∀ c, (Ch.cells l).has c = false} {d : TypeDesc} {i : TypeInfo} (ho : o.op = .load T x) (hT : P.underlying T = some d) (hrow : d.isRow = true) (hi : P.info? T = some i) (hz : i.size = l.length) (hx : opv K x = .c (.one (.d (.adr (some b)))))
   (hq : lookB B q = some (.obj (.pool L))) (hL : pget L b = some (Ob.ch (.cells l) h)) (N : Nat) : OpOK P N ids o K B (.c (.agg l)) ⟨[q], [], []⟩ := by
 have hm : x ∈ o.op.operands := by rw [ho]; simp [Op.operands]
 refine OpOK.val fun K' B' g1 g2 C ρ F a w hM hS => ?_
 have hP : poolR (Imm C B' F w) w L (F q) := hM.holds q _ ((g2 q (by simp)).trans hq)
 have hv : a.eval x = .pointer (some ⟨b, 0, none⟩) := hS.ev ((g1 x hm).trans hx)
 obtain ⟨F1, F2, p, k1, k2, k3, k4, k5⟩ := hP.out hL
 obtain ⟨h1, vs, T', h2, h3⟩ := k4
 rw [k3] at h2
 refine ⟨.agg (List.toArray vs), exec_loadn (cs := vs) ho hv hT hrow hi (by rw [DenL.length _ _ h3]; exact hz) (fun j v hj => by rw [Nat.zero_add]; exact cell_of h2 hj), vs, rfl, DenL.mono (Ext.refl _ _) _ _ (fun c hc => by
   have h0 : hasL c l = false := h c
   rw [h0] at hc
   cases hc) h3⟩
end
@[reducible] def bzS (c d : Nat) (s g : Int) (es : List (El uI × El uI)) : BL := [(c, .cells [.d (.int .i64 s), .d (.int .i64 g), .mp d]), (d, .map uI uI es)]
theorem bzcopyO (s g : Int) (es : List (El uI × El uI)) : Fn Tryz.prog 163 [vP 3001] (bzS 3001 3002 s g es) [1001] (vP 1001) (bzS 3001 3002 s g es ++ [(1001, .obj (bzO s g es))]) := by
 refine Fn.of tblOK [] _ _ _ _ _ Tryz.func163 rfl rfl (by kernel_rfl) (by kernel_rfl) rfl (drawOK tblOK) rfl ?_
 refine ⟨_, _, _, _, Fn.ren [(1001, 3002), (2001, 1002)] (mapsCloneB_fn es), ⟨rfl, trivial⟩, rfl, ?_⟩
 refine ⟨rfl, ?_⟩
 refine ⟨indep_of (by kernel_rfl), ?_⟩
 exact ⟨_, _, _, Le.trans (Le.ren 17 1001 rfl) (Le.close 1001 (bzB s g es) ⟨rfl, rfl, trivial⟩ rfl fun _ _ _ _ h => h), rfl, rfl, ⟨rfl, rfl, rfl, trivial⟩, rfl⟩
/-- A copy of one of the pool. -/
theorem bzcopyG {s g : Int} {es : List (El uI × El uI)} {M : List (Nat × Ob)} {b : Nat} (hM : pget M b = some (bzO s g es)) : Fn Tryz.prog 163 [vAd b] [(1004, .obj (.pool M))] [5001, 5002] (vP 5001) [(1004, .obj (.pool M)), (5001, .cells [.d (.int .i64 s), .d (.int .i64 g), .mp 5002]), (5002, .map uI uI es)] := by
 have h0 := Fn.ren [(2001, 5001), (2002, 5002)] (bzcopy_fn s g es)
 have hc : Fn Tryz.prog 163 [vP 1001] [(1001, .obj (bzO s g es))] [5001, 5002] (vP 5001) ((1001, .obj (bzO s g es)) :: bzS 5001 5002 s g es) := Fn.close (Bl := bzB s g es) (Bl' := bzB s g es) (Bi := []) (Bo := bzS 5001 5002 s g es) [1002] h0 (fun _ _ _ _ h => h) (fun _ _ _ _ h => h) rfl rfl
 have := (FnX.pool (c := 1001) (q := 1004) (b := b) (args := []) (Bi := []) (nw := [5001, 5002]) (X := Unit) (res := fun _ => vP 5001) (Bo := fun _ => bzS 5001 5002 s g es) (o := bzO s g es) (o' := fun _ => bzO s g es) (L := M) hc.x hM rfl ⟨rfl, rfl⟩ rfl (fun _ => rfl)).fn
 rw [pset_self hM] at this
 exact this
end Go.Proofs.YtojaemgabaehdaaGreat
/-!
  Maps from keys to objects, as one object.
-/
namespace Go.Proofs.YtojaemgabaehdaaGreat
set_option linter.unusedVariables false
set_option linter.unusedSimpArgs false
open Go.RowKit
@[reducible] def adrE (b : Nat) : El .adr := (some b : Option Nat)
section
variable {P : Program} {ids : List Nat} {K : KL} {B : BL}
end
end Go.Proofs.YtojaemgabaehdaaGreat
/-!
  A new entry with an object of its own goes into a map, in whatever order; the map is laid open behind it. Directories: Add.
-/
namespace Go.Proofs.YtojaemgabaehdaaGreat
set_option linter.unusedVariables false
set_option linter.unusedSimpArgs false
set_option maxRecDepth 10000
open Go.RowKit Go.Proofs
/-- One that tells where another one lies, and that. -/
def pairG (oc : Nat → Ob) (ob : Ob) : Ob where
 R := fun I F w p => ∃ (F1 F2 : Nat → Prop) (q : Pl), (∀ x, F x ↔ F1 x ∨ F2 x) ∧ (∀ x, F1 x → ¬ F2 x) ∧ (oc q.blk).R I F1 w p ∧ ob.R I F2 w q
 stable := fun I F w I' w' p ⟨F1, F2, q, h1, h2, h3, h4⟩ he hF hz => ⟨F1, F2, q, h1, h2, (oc q.blk).stable _ _ _ _ _ _ h3 he (fun b hb => hF b ((h1 b).2 (.inl hb))) hz, ob.stable _ _ _ _ _ _ h4 he (fun b hb => hF b ((h1 b).2 (.inr hb))) hz⟩
def insR (ku : U) (es : List (El ku × El .adr)) (key : El ku) (o : Ob) (I F : Nat → Prop) (w : World) (p : Pl) : Prop :=
 ∃ (G : Nat → Prop) (q : Pl), (∀ x, F x ↔ x = p.blk ∨ G x) ∧ ¬ G p.blk ∧ (∃ ents clock, w.heap[p.blk]? = some (.map (List.toArray ents) clock) ∧ MapU I w ku .adr (mput (ku := ku) (vu := .adr) es key (adrE q.blk)) ents ∧ Births ents clock) ∧ o.R I G w q
/-- A map of addresses, and what lies at the one that was put in last. -/
def insO (ku : U) (es : List (El ku × El .adr)) (key : El ku) (o : Ob) : Ob where
 R := insR ku es key o
 stable := fun I F w I' w' p ⟨G, q, h1, h2, ⟨ents, clock, h4, h5, h6⟩, h7⟩ he hF hz => ⟨G, q, h1, h2, ⟨ents, clock, (hF _ ((h1 _).2 (.inl rfl))).trans h4, h5.mono he, h6⟩, o.stable _ _ _ _ _ _ h7 he (fun b hb => hF b ((h1 b).2 (.inr hb))) hz⟩
section
variable {P : Program} {ids : List Nat} {K : KL} {B : BL}
theorem Le.asCh (c : Nat) {ch : Ch} (h : ∀ c, ch.has c = false) (hc : lookB B c = some ch) : Le ids K B K ((c, .obj (Ob.ch ch h)) :: B) := by
 rintro N C a w ⟨hn, hd, ρ, F, hM, hS⟩
 obtain ⟨hM', hE⟩ := hM.turn (w' := w) (ch := .obj (Ob.ch ch h)) hc (Fr.refl _ _) fun I hI => Ob.ch_of h (Holds.stable (ρ' := ρ) hI (fun _ _ => rfl) (Nat.le_refl _) ch (fun _ _ => rfl) (hM.holds c _ hc))
 exact ⟨hn, hd, ρ, F, hM', hS.mono hE fun _ _ _ => rfl⟩
theorem opOK_putIns {o : Oper} {T kt et : TypeId} {x i v : Operand} {c d e : Nat} (ho : o.op = .mapUpdate T x i v) (hT : P.underlying T = some (.map kt et)) {dk : TypeDesc} (hkt : P.underlying kt = some dk) {ku : U} (hd : keyD ku dk = true)
   (hx : opv K x = .c (.one (.mp c))) {key : El ku} (hk : keyS ku (opv K i) = some key) (hv : opv K v = .c (.one (.ptr d 0))) {es : List (El ku × El .adr)} {hh : ∀ c, (Ch.map ku .adr es).has c = false} {l : List S1} {oc : Nat → Ob} {ob : Ob}
   (hc : lookB B c = some (.obj (Ob.ch (.map ku .adr es) hh))) (hd2 : lookB B d = some (.cells l)) (he2 : lookB B e = some (.obj ob)) (hne : c ≠ d) (hne2 : c ≠ e) (hne3 : d ≠ e)
   (hoc : ∀ (ρ : Nat → Pl) (I F : Nat → Prop) (w : World) (p : Pl), Holds ρ I F w p (.cells l) → (oc (ρ e).blk).R I F w p) (N : Nat) : OpOK P N ids o K B .undef ⟨[c, d, e], [], [(d, none), (e, none), (c, some (.obj (insO ku es key (pairG oc ob))))]⟩ := by
 have m1 : x ∈ o.op.operands := by rw [ho]; simp [Op.operands]
 have m2 : i ∈ o.op.operands := by rw [ho]; simp [Op.operands]
 have m3 : v ∈ o.op.operands := by rw [ho]; simp [Op.operands]
 rintro K' B' g1 g2 - C a w ⟨hn, hdf, ρ, F, hM, hS⟩ hlt Kn Q hK
 have hc' := (g2 c (by simp)).trans hc
 have hd' := (g2 d (by simp)).trans hd2
 have he' := (g2 e (by simp)).trans he2
 obtain ⟨hFc, ents, clock, h4, h5, h6⟩ : Holds (fun _ => ρ c) (Imm C B' F w) (F c) w (ρ c) (.map ku .adr es) := hM.holds c _ hc'
 have hCd := hM.holds d _ hd'
 have hOe : ob.R (Imm C B' F w) (F e) w (ρ e) := hM.holds e _ he'
 have hde : ∀ y, F d y → ¬ F e y := fun y hy hy' => hM.disj d e _ _ y hd' he' hne3 hy hy'
 have hO : (pairG oc ob).R (Imm C B' F w) (fun y => F d y ∨ F e y) w (ρ d) := ⟨F d, F e, ρ e, fun x => Iff.rfl, hde, hoc ρ _ _ _ _ hCd, hOe⟩
 have e1 := hS.mp ((g1 x m1).trans hx)
 have e2 : a.eval i = keyV ku key := keyS_den hk (hS.ev (g1 i m2))
 have e3 : a.eval v = .pointer (some ⟨(ρ d).blk, 0, none⟩) := hS.ev ((g1 v m3).trans hv)
 have e4 : DenE (Imm C B' F w) w .adr (adrE (ρ d).blk) (a.eval v) := by
   rw [e3]
   exact ⟨rfl, ⟨fun _ => rfl, fun h => by cases h⟩, rfl⟩
 obtain ⟨es', clock', hr, hm', hB'⟩ := update_run (P := P) hT hkt hd h4 h5 h6 key e4
 have hdj : ∀ y, (F d y ∨ F e y) → ¬ F c y := fun y hy hy' => hy.elim (fun hy => hM.disj d c _ _ y hd' hc' (Ne.symm hne) hy hy') (fun hy => hM.disj e c _ _ y he' hc' (Ne.symm hne2) hy hy')
 have hlt2 := (Array.getElem?_eq_some_iff.1 h4).1
 have hfrB : ∀ y, y ≠ (ρ c).blk → ({ w with heap := w.heap.setIfInBounds (ρ c).blk (.map (List.toArray es') clock') } : World).heap[y]? = w.heap[y]? := fun y hy => Array.getElem?_setIfInBounds_ne (Ne.symm hy)
 unfold Oper.wp
 have hx : (execOp a.eval o).run P w = .ok .skip { w with heap := w.heap.setIfInBounds (ρ c).blk (.map (List.toArray es') clock') } := by simp only [execOp, ho, Sem.run_bind, e1, e2, hr, Result.andThen_ok, Sem.run_pure]
 rw [hx, Oper.upon_skip]
 obtain ⟨hM', hE⟩ := hM.step (B' := (c, .obj (insO ku es key (pairG oc ob))) :: dropB (dropB B' d) e) (ρ' := ρ) (F' := upd F c (fun y => F c y ∨ (F d y ∨ F e y))) (w' := { w with heap := w.heap.setIfInBounds (ρ c).blk (.map (List.toArray es') clock') }) (fun j => j = d ∨ j = e ∨ j = c) (fun _ => False)
   ((map_fr (S := F c) ((hFc _).2 rfl)).mono fun y _ hy => ⟨c, _, hc', .inr (.inr rfl), hy⟩)
   (fun j ch hj hm => by
     rw [lookB_cons, if_neg (fun e => hm (.inr (.inr e.symm))), lookB_dropB, if_neg (fun e => hm (.inr (.inl e.symm))), lookB_dropB, if_neg (fun e => hm (.inl e.symm))] at hj
     exact hj)
   (fun _ _ => rfl) (fun j hm => upd_other _ _ (fun e => hm (.inr (.inr e)))) (fun _ _ h => h) (fun _ h => h.elim) (fun _ _ _ _ _ _ h => h)
   (fun j ch hj hm hE => by
     rw [lookB_cons] at hj
     split at hj
     · rename_i e
       subst e
       injection hj with hj
       subst hj
       rw [upd_same]
       have hdc : ∀ y, (F d y ∨ F e y) → y ≠ (ρ c).blk := fun y hy e => hdj y hy (e ▸ (hFc _).2 rfl)
       refine ⟨fun y => F d y ∨ F e y, ρ d, fun y => ?_, fun h => hdc _ h rfl, ⟨es', clock', by simp [hlt2], hm'.mono hE, hB'⟩, (pairG oc ob).stable _ _ _ _ _ _ hO hE (fun y hy => hfrB y (hdc y hy)) (by simp)⟩
       show (F c y ∨ (F d y ∨ F e y)) ↔ (y = (ρ c).blk ∨ (F d y ∨ F e y))
       rw [hFc]
     · rename_i e0
       rcases hm with rfl | rfl | rfl
       · rw [lookB_dropB] at hj
         split at hj
         · cases hj
         · rw [lookB_dropB, if_pos rfl] at hj; cases hj
       · rw [lookB_dropB, if_pos rfl] at hj; cases hj
       · exact absurd rfl e0)
   (fun j ch hj hm y hy => by
     rw [lookB_cons] at hj
     split at hj
     · rename_i e0
       subst e0
       rw [upd_same] at hy
       rcases hy with hy | hy | hy
       · exact ⟨by simpa using (hM.own c _ hc' y hy).1, .inl ⟨c, _, hc', .inr (.inr rfl), hy⟩⟩
       · exact ⟨by simpa using (hM.own d _ hd' y hy).1, .inl ⟨d, _, hd', .inl rfl, hy⟩⟩
       · exact ⟨by simpa using (hM.own e _ he' y hy).1, .inl ⟨e, _, he', .inr (.inl rfl), hy⟩⟩
     · rename_i e0
       rcases hm with rfl | rfl | rfl
       · rw [lookB_dropB] at hj
         split at hj
         · cases hj
         · rw [lookB_dropB, if_pos rfl] at hj; cases hj
       · rw [lookB_dropB, if_pos rfl] at hj; cases hj
       · exact absurd rfl e0)
   (fun j j' ch ch' y hj hj' hm hm' hnej => by
     have key : ∀ j ch, lookB ((c, Ch.obj (insO ku es key (pairG oc ob))) :: dropB (dropB B' d) e) j = some ch → (j = d ∨ j = e ∨ j = c) → j = c := fun j ch hj hm => by
       rcases hm with rfl | rfl | rfl
       · rw [lookB_cons, if_neg hne, lookB_dropB] at hj
         split at hj
         · cases hj
         · rw [lookB_dropB, if_pos rfl] at hj; cases hj
       · rw [lookB_cons, if_neg hne2, lookB_dropB, if_pos rfl] at hj; cases hj
       · rfl
     exact absurd ((key j ch hj hm).trans (key j' ch' hj' hm').symm) hnej)
 exact hK _ _ ⟨put_size.trans hn, put_defers.trans hdf, ρ, _, hM', (hS.mono hE fun _ _ _ => rfl).putO (fun e he => by rw [hn]; exact hlt e he) rfl⟩
theorem LeX.openIns (c d : Nat) {ku : U} {es : List (El ku × El .adr)} {key : El ku} {o : Ob} (hc : lookB B c = some (.obj (insO ku es key o))) (hd : freshB ids K B d = true) : LeX ids K B (X := Nat) (fun _ => K) (fun ad => (d, .obj (o.at ad)) :: (c, .map ku .adr (mput (ku := ku) (vu := .adr) es key (adrE ad))) :: B) := by
 rintro N C a w ⟨hn, hdf, ρ, F, hM, hS⟩
 obtain ⟨G, q, h1, h2, ⟨ents, clock, h4, h5, h6⟩, h7⟩ : insR ku es key o (Imm C B F w) (F c) w (ρ c) := hM.holds c _ hc
 obtain ⟨f1, f2, f3, f4⟩ := fresh_of hd
 obtain ⟨hM', hE⟩ := hM.split (K := K) (ch1 := .map ku .adr (mput (ku := ku) (vu := .adr) es key (adrE q.blk))) (ch2 := .obj (o.at q.blk)) hc hd q (fun x => x = (ρ c).blk) G (fun b hb => (h1 b).2 (.inl hb)) (fun b hb => (h1 b).2 (.inr hb)) (fun b hb hG => h2 (hb ▸ hG))
   (fun I hI => ⟨fun b => Iff.rfl, ents, clock, h4, h5.mono hI, h6⟩) (fun I hI => by
     refine ⟨rfl, ?_⟩
     exact o.stable _ _ _ _ _ _ h7 hI (fun _ _ => rfl) (Nat.le_refl _))
 exact ⟨q.blk, hn, hdf, _, _, hM', hS.mono hE fun s j hj => upd_other _ _ (fun e' => by subst e'; rw [f1 s] at hj; cases hj)⟩
theorem LeX.openPair (d e : Nat) {oc : Nat → Ob} {ob : Ob} {ad : Nat} (hc : lookB B d = some (.obj ((pairG oc ob).at ad))) (he : freshB ids K B e = true) : LeX ids K B (X := Nat) (fun _ => K) (fun ab => (e, .obj (ob.at ab)) :: (d, .obj ((oc ab).at ad)) :: B) := by
 rintro N C a w ⟨hn, hdf, ρ, F, hM, hS⟩
 obtain ⟨hb, F1, F2, q, h1, h2, h3, h4⟩ : ((pairG oc ob).at ad).R (Imm C B F w) (F d) w (ρ d) := hM.holds d _ hc
 obtain ⟨f1, f2, f3, f4⟩ := fresh_of he
 obtain ⟨hM', hE⟩ := hM.split (K := K) (ch1 := .obj ((oc q.blk).at ad)) (ch2 := .obj (ob.at q.blk)) hc he q F1 F2 (fun b hb => (h1 b).2 (.inl hb)) (fun b hb => (h1 b).2 (.inr hb)) h2
   (fun I hI => ⟨hb, (oc q.blk).stable _ _ _ _ _ _ h3 hI (fun _ _ => rfl) (Nat.le_refl _)⟩) (fun I hI => ⟨rfl, ob.stable _ _ _ _ _ _ h4 hI (fun _ _ => rfl) (Nat.le_refl _)⟩)
 exact ⟨q.blk, hn, hdf, _, _, hM', hS.mono hE fun s j hj => upd_other _ _ (fun e' => by subst e'; rw [f1 s] at hj; cases hj)⟩
end
/-! ### Add -/
theorem enO_anch {nm : List UInt8} {on us : Bool} {ab : Nat} : (enO nm on us ab).anch := fun I F w p h => (h.1 _).2 rfl
theorem bzO_anch {s g : Int} {es : List (El uI × El uI)} : (bzO s g es).anch := by
 rintro I F w p ⟨ρ, G, h1, h2, h3, h4⟩
 obtain ⟨hF, _⟩ := h2 1001 _ rfl
 exact (h4 _).2 ⟨1001, _, rfl, (hF _).2 (by rw [h1])⟩
theorem dD_anch (l : List DEn) : ∀ p ∈ dD l, p.2.anch := fun p hp => by
 obtain ⟨d, _, rfl⟩ := List.mem_map.1 hp
 exact enO_anch
theorem dM_anch (l : List DEn) : ∀ p ∈ dM l, p.2.anch := fun p hp => by
 obtain ⟨d, _, rfl⟩ := List.mem_map.1 hp
 exact bzO_anch
theorem mput_newE (nm : List UInt8) (x : El .adr) : ∀ L : List DEn, ek L nm = none → mput (ku := .str) (vu := .adr) (dE L) (nm : El .str) x = (dE L ++ [mkX nm x] : List (El .str × El .adr))
 | [], _ => rfl
 | d :: L, h => by
   rw [ek_cons] at h
   by_cases e : d.nm = nm
   · rw [if_pos e] at h; cases h
   · rw [if_neg e] at h
     have ih := mput_newE nm x L h
     show mput (ku := .str) (vu := .adr) (enE d :: dE L) (nm : El .str) x = _
     rw [show mput (ku := .str) (vu := .adr) (enE d :: dE L) (nm : El .str) x = (match eqKey .str (nm : El .str) (enE d).1 with | true => mkX nm x :: dE L | false => enE d :: mput (ku := .str) (vu := .adr) (dE L) (nm : El .str) x : List (El .str × El .adr)) from rfl]
     rw [show eqKey .str (nm : El .str) (enE d).1 = false from eqKey_ne (ku := .str) eqKey_str (fun h => e h.symm)]
     simp only
     rw [ih]
     rfl
theorem ek_none {l : List DEn} {nm : List UInt8} (h : ek l nm = none) : nm ∉ l.map (·.nm) := fun hx => by
 obtain ⟨d, hd, e⟩ := List.mem_map.1 hx
 have := List.find?_eq_none.1 h d hd
 exact this (by simpa using e)
theorem DOK.add {l : List DEn} (h : DOK l) {e : DEn} (h0 : ek l e.nm = none) (ha : e.ad ∉ l.map (·.ad)) (hb : e.ab ∉ l.map (·.ab)) (hok : (0 ≤ e.s ∧ e.s ≤ 4096) ∧ (1 ≤ e.g ∧ e.g ≤ 64) ∧ KNd e.es ∧ e.nm.length ≤ 64) (hl : l.length < 8) : DOK (l ++ [e]) := by
 have key : ∀ {α : Type} (f : DEn → α) (d : DEn), (l.map f).Nodup → f d ∉ l.map f → ((l ++ [d]).map f).Nodup := fun f d h1 h2 => by
   rw [List.map_append]
   refine List.nodup_append.2 ⟨h1, by simp, fun a ha b hb e => ?_⟩
   rw [List.map_cons, List.map_nil, List.mem_singleton] at hb
   exact h2 (by rw [← hb, ← e]; exact ha)
 refine ⟨key _ _ h.nms (ek_none h0), key _ _ h.ads ha, key _ _ h.abs hb, fun x hx => ?_, by rw [List.length_append]; show l.length + 1 ≤ 8; omega⟩
 rcases List.mem_append.1 hx with hx | hx
 · exact h.ok x hx
 · rw [List.mem_singleton.1 hx]; exact hok
theorem consE_perm {f : DEn → Nat × Ob} (L : List DEn) (d : DEn) : (f d :: L.map f).Perm ((L ++ [d]).map f) := by
 rw [List.map_append]
 exact (List.perm_append_comm (l₁ := [f d]) (l₂ := L.map f))
@[reducible] def daB (l : List DEn) (s g : Int) (es : List (El uI × El uI)) : BL := dirB l ++ bzS 2001 2002 s g es
theorem eg_none {l : List DEn} {nm : List UInt8} (h0 : ek l nm = none) : (mget (ku := .str) (vu := .adr) (dE l) nm).getD (dflt .adr) = none := by rw [eget, h0]; rfl
theorem eg_some {l : List DEn} {nm : List UInt8} {e : DEn} (h0 : ek l nm = some e) : (mget (ku := .str) (vu := .adr) (dE l) nm).getD (dflt .adr) = some e.ad := by rw [eget, h0]; rfl
set_option maxHeartbeats 1000000 in
theorem dadd_ok {l : List DEn} (h : DOK l) (nm : List UInt8) (hn : nm.length ≤ 4294967296) (hr : nameOK nm = true) (h0 : ek l nm = none) (h8 : l.length < 8) (s g : Int) (es : List (El uI × El uI)) (hok : (0 ≤ s ∧ s ≤ 4096) ∧ (1 ≤ g ∧ g ≤ 64) ∧ KNd es) :
   FnX Tryz.prog 79 [vP 1001, vS nm, vP 2001] (daB l s g es) [] (X := { p : Nat × Nat // DOK (l ++ [⟨nm, p.1, p.2, true, true, s, g, es⟩]) }) (fun _ => vI 0) (fun p => daB (l ++ [⟨nm, p.1.1, p.1.2, true, true, s, g, es⟩]) s g es) := by
 have hx := eg_none h0
 have hlen : (dE l).length = l.length := List.length_map ..
 refine FnX.of tblOK [5,6] _ _ _ _ _ Tryz.func79 rfl rfl (by kernel_rfl) (by kernel_rfl) rfl (drawOK tblOK) rfl ?_
 refine ⟨_, _, _, _, files_Right_fn _ hn, trivial, rfl, ?_⟩
 refine ⟨fun e1 => ?_, fun e1 => ?_⟩
 · rw [hr] at e1; cases e1
 refine ⟨fun b' e3 => ?_, fun e3 => ?_⟩
 · exfalso
   have : (mget (ku := .str) (vu := .adr) (dE l) nm).getD (dflt .adr) = some b' := e3
   rw [hx] at this
   cases this
 refine ⟨fun e4 => ?_, fun e4 => ?_⟩
 · exfalso
   have e4 : (8 : Int) ≤ ((dE l).length : Int) := of_decide_eq_true e4
   omega
 show TrQ _ _ _ _ _ _ _
 refine TrQ.le (Le.asCh 1002 (fun _ => rfl) rfl) ?_
 refine TrQ.go tblOK (drawOK tblOK) [6] (by kernel_rfl) (Le.refl _ _) ?_
 refine ⟨_, _, _, _, Fn.ren [(1001, 38), (3001, 2001), (3002, 2002)] (bzcopyO s g es), ⟨rfl, rfl, trivial⟩, rfl, ?_⟩
 refine ⟨rfl, ?_⟩
 refine ⟨_, _, fun N => opOK_putIns (c := 1002) (d := 40) (e := 38) (ku := .str) (key := nm) (oc := fun ab => enO nm true true ab) rfl Tryz.underlying262 (dk := .string) (by kernel_rfl) rfl rfl rfl rfl rfl rfl rfl (by decide) (by decide) (by decide) (fun ρ I F w p hh => ?hoc) N, rfl, ?_⟩
 case hoc =>
   obtain ⟨q1, vs, T, q2, v1, r1, e1, s1, v2, r2, e2, s2, v3, r3, e3, s3, v4, r4, e4, s4, e5⟩ := hh
   exact ⟨q1, vs, T, q2, v1, r1, e1, s1, v2, r2, e2, s2, v3, r3, e3, s3, v4, r4, e4, s4, e5⟩
 refine ⟨indep_of (by kernel_rfl), ?_⟩
 show TrQ _ _ _ _ _ _ _
 refine TrQ.leX (LeX.openIns 1002 5001 rfl rfl) fun ad => ?_
 refine TrQ.leX (LeX.openPair 5001 5002 rfl rfl) fun ab => ?_
 refine TrQ.le (K' := []) (B' := [(1001, .cells [.mp 1002]), (1002, .map .str .adr (mput (ku := .str) (vu := .adr) (dE l) nm (adrE ad))), (1003, .obj (.pool ((ad, enO nm true true ab) :: dD l))), (1004, .obj (.pool ((ab, bzO s g es) :: dM l))), (2001, .cells [.d (.int .i64 s), .d (.int .i64 g), .mp 2002]), (2002, .map uI uI es)]) (Le.trans (Le.put 1003 5001 (by decide) rfl rfl) (Le.trans (Le.put 1004 5002 (by decide) rfl rfl) (Le.sub trivial ⟨rfl, rfl, rfl, rfl, rfl, rfl, trivial⟩))) ?_
 refine TrQ.leX (LeX.poolNd 1003 (L := (ad, enO nm true true ab) :: dD l) (fun p hp => (List.mem_cons.1 hp).elim (fun e => by rw [e]; exact enO_anch) (dD_anch l p)) rfl) fun hnd1 => ?_
 refine TrQ.leX (LeX.poolNd 1004 (L := (ab, bzO s g es) :: dM l) (fun p hp => (List.mem_cons.1 hp).elim (fun e => by rw [e]; exact bzO_anch) (dM_anch l p)) rfl) fun hnd2 => ?_
 refine TrQ.go tblOK (drawOK tblOK) [] (by kernel_rfl) (Le.refl _ _) ?_
 have haN : ad ∉ l.map (·.ad) := fun hm => (List.nodup_cons.1 hnd1.down).1 (by show ad ∈ (dD l).map (·.1); unfold dD; rw [List.map_map]; exact hm)
 have hbN : ab ∉ l.map (·.ab) := fun hm => (List.nodup_cons.1 hnd2.down).1 (by show ab ∈ (dM l).map (·.1); unfold dM; rw [List.map_map]; exact hm)
 have hnl : nm.length ≤ 64 := by have := (nameOK_len hr).2; omega
 have eE : mput (ku := .str) (vu := .adr) (dE l) (nm : El .str) (adrE ad) = dE (l ++ [⟨nm, ad, ab, true, true, s, g, es⟩]) := (mput_newE nm _ l h0).trans (by unfold dE; rw [List.map_append]; rfl)
 exact ⟨⟨(ad, ab), h.add (e := ⟨nm, ad, ab, true, true, s, g, es⟩) h0 haN hbN ⟨hok.1, hok.2.1, hok.2.2, hnl⟩ h8⟩, _, _, _, Le.trans (Le.perm 1003 (consE_perm (f := fD) l ⟨nm, ad, ab, true, true, s, g, es⟩) rfl) (Le.perm 1004 (consE_perm (f := fM) l ⟨nm, ad, ab, true, true, s, g, es⟩) rfl), rfl, rfl, ⟨rfl, congrArg (fun e => some (Ch.map .str .adr e)) eE, rfl, rfl, rfl, rfl, trivial⟩, rfl⟩
theorem dadd_arg {l : List DEn} (nm : List UInt8) (hn : nm.length ≤ 4294967296) (hr : nameOK nm = false) (s g : Int) (es : List (El uI × El uI)) :
   Fn Tryz.prog 79 [vP 1001, vS nm, vP 2001] (daB l s g es) [] (vI 1) (daB l s g es) := by
 refine Fn.of tblOK [] _ _ _ _ _ Tryz.func79 rfl rfl (by kernel_rfl) (by kernel_rfl) rfl (drawOK tblOK) rfl ?_
 refine ⟨_, _, _, _, files_Right_fn _ hn, trivial, rfl, ?_⟩
 refine ⟨fun e1 => ?_, fun e1 => ?_⟩
 · exact ⟨_, _, _, Le.refl _ _, rfl, rfl, ⟨rfl, rfl, rfl, rfl, rfl, rfl, trivial⟩, rfl⟩
 · rw [hr] at e1; cases e1
theorem dadd_there {l : List DEn} (nm : List UInt8) (hn : nm.length ≤ 4294967296) (hr : nameOK nm = true) (h0 : (ek l nm).isSome = true ∨ 8 ≤ l.length) (s g : Int) (es : List (El uI × El uI)) :
   Fn Tryz.prog 79 [vP 1001, vS nm, vP 2001] (daB l s g es) [] (vI 111) (daB l s g es) := by
 have hlen : (dE l).length = l.length := List.length_map ..
 refine Fn.of tblOK [5] _ _ _ _ _ Tryz.func79 rfl rfl (by kernel_rfl) (by kernel_rfl) rfl (drawOK tblOK) rfl ?_
 refine ⟨_, _, _, _, files_Right_fn _ hn, trivial, rfl, ?_⟩
 refine ⟨fun e1 => ?_, fun e1 => ?_⟩
 · rw [hr] at e1; cases e1
 refine ⟨fun b' e3 => ?_, fun e3 => ?_⟩
 · exact ⟨_, _, _, Le.refl _ _, rfl, rfl, ⟨rfl, rfl, rfl, rfl, rfl, rfl, trivial⟩, rfl⟩
 refine ⟨fun e4 => ?_, fun e4 => ?_⟩
 · exact ⟨_, _, _, Le.refl _ _, rfl, rfl, ⟨rfl, rfl, rfl, rfl, rfl, rfl, trivial⟩, rfl⟩
 · exfalso
   have e3 : (mget (ku := .str) (vu := .adr) (dE l) nm).getD (dflt .adr) = none := e3
   have e4 : ¬ (8 : Int) ≤ ((dE l).length : Int) := of_decide_eq_false e4
   rcases h0 with h0 | h0
   · rw [eget] at e3
     cases h1 : ek l nm with
     | none => rw [h1] at h0; cases h0
     | some e => rw [h1] at e3; cases e3
   · omega
end Go.Proofs.YtojaemgabaehdaaGreat
/-!
  Directories: of, Remove, Switch, Clear, Get, Merge.
-/
namespace Go.Proofs.YtojaemgabaehdaaGreat
set_option linter.unusedVariables false
set_option linter.unusedSimpArgs false
set_option maxRecDepth 10000
open Go.RowKit Go.Proofs
theorem dof_rm {l l' : List DEn} {nm : List UInt8} {e : DEn} (he : ek l nm = some e) (hc : Fn Tryz.prog 242 [vAd e.ad, vP 3001, vP 3002] (dirB l ++ [(3001, .cells [.ptr 1001 0]), (3002, .cells [.d (.str nm)])]) [] vU (dirB l' ++ [(3001, .cells [.ptr 1001 0]), (3002, .cells [.d (.str nm)])])) :
   Fn Tryz.prog 241 [vP 1001, vS nm, .c (.one (.clo 242 [.p 3001 0, .p 3002 0]))] (dirB l ++ [(3001, .cells [.ptr 1001 0]), (3002, .cells [.d (.str nm)])]) [] (vI 0) (dirB l' ++ [(3001, .cells [.ptr 1001 0]), (3002, .cells [.d (.str nm)])]) := by
 have h' := eg_some he
 refine Fn.of tblOK [] _ _ _ _ _ Tryz.func241 rfl rfl (by kernel_rfl) (by kernel_rfl) rfl (drawOK tblOK) rfl ?_
 refine ⟨fun b' hb => ?_, fun hb => absurd (show (mget (ku := .str) (vu := .adr) (dE l) nm).getD (dflt .adr) = none from hb) (by rw [h']; intro h; cases h)⟩
 refine ⟨_, _, _, _, Fn.arg (args := [vAdrO ((mget (ku := .str) (vu := .adr) (dE l) nm).getD (dflt .adr)), vP 3001, vP 3002]) hc ⟨h', rfl, rfl, trivial⟩, ⟨rfl, rfl, rfl, rfl, rfl, rfl, trivial⟩, rfl, ?_⟩
 exact ⟨_, _, _, Le.refl _ _, rfl, rfl, ⟨rfl, rfl, rfl, rfl, rfl, rfl, trivial⟩, rfl⟩
theorem dof_rm_no {l : List DEn} {nm : List UInt8} (he : ek l nm = none) :
   Fn Tryz.prog 241 [vP 1001, vS nm, .c (.one (.clo 242 [.p 3001 0, .p 3002 0]))] (dirB l ++ [(3001, .cells [.ptr 1001 0]), (3002, .cells [.d (.str nm)])]) [] (vI 112) (dirB l ++ [(3001, .cells [.ptr 1001 0]), (3002, .cells [.d (.str nm)])]) := by
 have h' := eg_none he
 refine Fn.of tblOK [] _ _ _ _ _ Tryz.func241 rfl rfl (by kernel_rfl) (by kernel_rfl) rfl (drawOK tblOK) rfl ?_
 refine ⟨fun b' hb => absurd (show (mget (ku := .str) (vu := .adr) (dE l) nm).getD (dflt .adr) = some b' from hb) (by rw [h']; intro h; cases h), fun _ => ?_⟩
 exact ⟨_, _, _, Le.refl _ _, rfl, rfl, ⟨rfl, rfl, rfl, rfl, rfl, rfl, trivial⟩, rfl⟩
theorem dof_sw {l l' : List DEn} {nm : List UInt8} (on : Bool) {e : DEn} (he : ek l nm = some e) (hc : Fn Tryz.prog 243 [vAd e.ad, vP 3001] (dirB l ++ [(3001, .cells [.d (.bool on)])]) [] vU (dirB l' ++ [(3001, .cells [.d (.bool on)])])) :
   Fn Tryz.prog 241 [vP 1001, vS nm, .c (.one (.clo 243 [.p 3001 0]))] (dirB l ++ [(3001, .cells [.d (.bool on)])]) [] (vI 0) (dirB l' ++ [(3001, .cells [.d (.bool on)])]) := by
 have h' := eg_some he
 refine Fn.of tblOK [] _ _ _ _ _ Tryz.func241 rfl rfl (by kernel_rfl) (by kernel_rfl) rfl (drawOK tblOK) rfl ?_
 refine ⟨fun b' hb => ?_, fun hb => absurd (show (mget (ku := .str) (vu := .adr) (dE l) nm).getD (dflt .adr) = none from hb) (by rw [h']; intro h; cases h)⟩
 refine ⟨_, _, _, _, Fn.arg (args := [vAdrO ((mget (ku := .str) (vu := .adr) (dE l) nm).getD (dflt .adr)), vP 3001]) hc ⟨h', rfl, trivial⟩, ⟨rfl, rfl, rfl, rfl, rfl, trivial⟩, rfl, ?_⟩
 exact ⟨_, _, _, Le.refl _ _, rfl, rfl, ⟨rfl, rfl, rfl, rfl, rfl, trivial⟩, rfl⟩
theorem dof_sw_no {l : List DEn} {nm : List UInt8} (on : Bool) (he : ek l nm = none) :
   Fn Tryz.prog 241 [vP 1001, vS nm, .c (.one (.clo 243 [.p 3001 0]))] (dirB l ++ [(3001, .cells [.d (.bool on)])]) [] (vI 112) (dirB l ++ [(3001, .cells [.d (.bool on)])]) := by
 have h' := eg_none he
 refine Fn.of tblOK [] _ _ _ _ _ Tryz.func241 rfl rfl (by kernel_rfl) (by kernel_rfl) rfl (drawOK tblOK) rfl ?_
 refine ⟨fun b' hb => absurd (show (mget (ku := .str) (vu := .adr) (dE l) nm).getD (dflt .adr) = some b' from hb) (by rw [h']; intro h; cases h), fun _ => ?_⟩
 exact ⟨_, _, _, Le.refl _ _, rfl, rfl, ⟨rfl, rfl, rfl, rfl, rfl, trivial⟩, rfl⟩
theorem dof_cl {l l' : List DEn} {nm : List UInt8} {e : DEn} (he : ek l nm = some e) (hc : Fn Tryz.prog 244 [vAd e.ad] (dirB l) [] vU (dirB l')) :
   Fn Tryz.prog 241 [vP 1001, vS nm, .c (.one (.clo 244 []))] (dirB l) [] (vI 0) (dirB l') := by
 have h' := eg_some he
 refine Fn.of tblOK [] _ _ _ _ _ Tryz.func241 rfl rfl (by kernel_rfl) (by kernel_rfl) rfl (drawOK tblOK) rfl ?_
 refine ⟨fun b' hb => ?_, fun hb => absurd (show (mget (ku := .str) (vu := .adr) (dE l) nm).getD (dflt .adr) = none from hb) (by rw [h']; intro h; cases h)⟩
 refine ⟨_, _, _, _, Fn.arg (args := [vAdrO ((mget (ku := .str) (vu := .adr) (dE l) nm).getD (dflt .adr))]) hc ⟨h', trivial⟩, ⟨rfl, rfl, rfl, rfl, trivial⟩, rfl, ?_⟩
 exact ⟨_, _, _, Le.refl _ _, rfl, rfl, ⟨rfl, rfl, rfl, rfl, trivial⟩, rfl⟩
theorem dof_cl_no {l : List DEn} {nm : List UInt8} (he : ek l nm = none) :
   Fn Tryz.prog 241 [vP 1001, vS nm, .c (.one (.clo 244 []))] (dirB l) [] (vI 112) (dirB l) := by
 have h' := eg_none he
 refine Fn.of tblOK [] _ _ _ _ _ Tryz.func241 rfl rfl (by kernel_rfl) (by kernel_rfl) rfl (drawOK tblOK) rfl ?_
 refine ⟨fun b' hb => absurd (show (mget (ku := .str) (vu := .adr) (dE l) nm).getD (dflt .adr) = some b' from hb) (by rw [h']; intro h; cases h), fun _ => ?_⟩
 exact ⟨_, _, _, Le.refl _ _, rfl, rfl, ⟨rfl, rfl, rfl, rfl, trivial⟩, rfl⟩
theorem dof_gt {l l' : List DEn} {nm : List UInt8} (on us : Bool) (s g : Int) (es : List (El uI × El uI)) {e : DEn} (he : ek l nm = some e) (hc : Fn Tryz.prog 305 [vAd e.ad, vP 3001] (dirB l ++ [(3001, .cells [.d (.str []), .d (.lit false), .d (.lit false), .raw (.pointer none)])]) [5001, 5002] vU (dirB l' ++ [(3001, .cells [.d (.str nm), .d (.bool on), .d (.bool us), .ptr 5001 0]), (5001, .cells [.d (.int .i64 s), .d (.int .i64 g), .mp 5002]), (5002, .map uI uI es)])) :
   Fn Tryz.prog 241 [vP 1001, vS nm, .c (.one (.clo 305 [.p 3001 0]))] (dirB l ++ [(3001, .cells [.d (.str []), .d (.lit false), .d (.lit false), .raw (.pointer none)])]) [5001, 5002] (vI 0) (dirB l' ++ [(3001, .cells [.d (.str nm), .d (.bool on), .d (.bool us), .ptr 5001 0]), (5001, .cells [.d (.int .i64 s), .d (.int .i64 g), .mp 5002]), (5002, .map uI uI es)]) := by
 have h' := eg_some he
 refine Fn.of tblOK [] _ _ _ _ _ Tryz.func241 rfl rfl (by kernel_rfl) (by kernel_rfl) rfl (drawOK tblOK) rfl ?_
 refine ⟨fun b' hb => ?_, fun hb => absurd (show (mget (ku := .str) (vu := .adr) (dE l) nm).getD (dflt .adr) = none from hb) (by rw [h']; intro h; cases h)⟩
 refine ⟨_, _, _, _, Fn.arg (args := [vAdrO ((mget (ku := .str) (vu := .adr) (dE l) nm).getD (dflt .adr)), vP 3001]) hc ⟨h', rfl, trivial⟩, ⟨rfl, rfl, rfl, rfl, rfl, trivial⟩, rfl, ?_⟩
 exact ⟨_, _, _, Le.refl _ _, rfl, rfl, ⟨rfl, rfl, rfl, rfl, rfl, rfl, rfl, trivial⟩, rfl⟩
/-! ### an entry turned, by its name -/
def enm (l : List DEn) (nm : List UInt8) (u : DEn → DEn) : List DEn := l.map fun x => if x.nm = nm then u x else x
theorem enm_eupd {l : List DEn} (h : DOK l) {nm : List UInt8} {e : DEn} (he : ek l nm = some e) (u : DEn → DEn) : eupd l e.ad u = enm l nm u := by
 obtain ⟨h1, h2⟩ := ek_get he
 unfold eupd enm
 refine List.map_congr_left fun x hx => ?_
 by_cases hc : x.ad = e.ad
 · have := nodup_inj h.ads hx h1 hc
   subst this
   rw [if_pos hc, if_pos h2]
 · rw [if_neg hc, if_neg fun e2 => hc (by rw [nodup_inj h.nms hx h1 (e2.trans h2.symm)])]
theorem enm_none {l : List DEn} {nm : List UInt8} (he : ek l nm = none) (u : DEn → DEn) : enm l nm u = l := by
 unfold enm
 refine (List.map_congr_left fun x hx => ?_).trans (List.map_id' l)
 rw [if_neg fun e => ek_none he (by rw [← e]; exact List.mem_map_of_mem hx)]
theorem DOK.nil : DOK [] := ⟨List.Pairwise.nil, List.Pairwise.nil, List.Pairwise.nil, (fun e he => by cases he), Nat.zero_le _⟩
theorem DOK.nmU {l : List DEn} (h : DOK l) (u : DEn → DEn) (nm : List UInt8) (h1 : ∀ e, (u e).nm = e.nm ∧ (u e).ad = e.ad ∧ (u e).ab = e.ab) (h2 : ∀ e, (0 ≤ e.s ∧ e.s ≤ 4096) ∧ (1 ≤ e.g ∧ e.g ≤ 64) ∧ KNd e.es → (0 ≤ (u e).s ∧ (u e).s ≤ 4096) ∧ (1 ≤ (u e).g ∧ (u e).g ≤ 64) ∧ KNd (u e).es) : DOK (enm l nm u) := by
 cases he : ek l nm with
 | none => rw [enm_none he]; exact h
 | some e =>
   rw [← enm_eupd h he]
   exact h.upd h1 fun x hx _ => h2 x ⟨(h.ok x hx).1, (h.ok x hx).2.1, (h.ok x hx).2.2.1⟩
def hasE (l : List DEn) (nm : List UInt8) : Int := if (ek l nm).isSome = true then 0 else 112
theorem hasE_some {l : List DEn} {nm : List UInt8} {e : DEn} (he : ek l nm = some e) : hasE l nm = 0 := by unfold hasE; rw [he]; rfl
theorem hasE_none {l : List DEn} {nm : List UInt8} (he : ek l nm = none) : hasE l nm = 112 := by unfold hasE; rw [he]; rfl
/-! ### Switch -/
theorem dswitch_fn {l : List DEn} (h : DOK l) (nm : List UInt8) (on : Bool) : Fn Tryz.prog 167 [vP 1001, vS nm, vB on] (dirB l) [] (vI (hasE l nm)) (dirB (enm l nm fun x => { x with on := on })) := by
 cases he : ek l nm with
 | none =>
   have hc := dof_sw_no on he
   rw [hasE_none he, enm_none he]
   refine Fn.of tblOK [] _ _ _ _ _ Tryz.func167 rfl rfl (by kernel_rfl) (by kernel_rfl) rfl (drawOK tblOK) rfl ?_
   refine ⟨rfl, ?_⟩
   refine ⟨_, _, _, _, Fn.ren [(3001, 5)] hc, ⟨rfl, rfl, rfl, rfl, rfl, trivial⟩, rfl, ?_⟩
   exact ⟨_, _, _, Le.refl _ _, rfl, rfl, ⟨rfl, rfl, rfl, rfl, trivial⟩, rfl⟩
 | some e =>
   have hc := dof_sw on he (dsw1_fn h (ek_get he).1 on)
   rw [hasE_some he, ← enm_eupd h he]
   refine Fn.of tblOK [] _ _ _ _ _ Tryz.func167 rfl rfl (by kernel_rfl) (by kernel_rfl) rfl (drawOK tblOK) rfl ?_
   refine ⟨rfl, ?_⟩
   refine ⟨_, _, _, _, Fn.ren [(3001, 5)] hc, ⟨rfl, rfl, rfl, rfl, rfl, trivial⟩, rfl, ?_⟩
   exact ⟨_, _, _, Le.refl _ _, rfl, rfl, ⟨rfl, rfl, rfl, rfl, trivial⟩, rfl⟩
/-! ### Clear -/
theorem dclear_fn {l : List DEn} (h : DOK l) (nm : List UInt8) : Fn Tryz.prog 168 [vP 1001, vS nm] (dirB l) [] (vI (hasE l nm)) (dirB (enm l nm clrE)) := by
 cases he : ek l nm with
 | none =>
   have hc := dof_cl_no he
   rw [hasE_none he, enm_none he]
   refine Fn.of tblOK [] _ _ _ _ _ Tryz.func168 rfl rfl (by kernel_rfl) (by kernel_rfl) rfl (drawOK tblOK) rfl ?_
   refine ⟨_, _, _, _, hc, ⟨rfl, rfl, rfl, rfl, trivial⟩, rfl, ?_⟩
   exact ⟨_, _, _, Le.refl _ _, rfl, rfl, ⟨rfl, rfl, rfl, rfl, trivial⟩, rfl⟩
 | some e =>
   have hc := dof_cl he (dclr1_fn h (ek_get he).1)
   rw [hasE_some he, ← enm_eupd h he]
   refine Fn.of tblOK [] _ _ _ _ _ Tryz.func168 rfl rfl (by kernel_rfl) (by kernel_rfl) rfl (drawOK tblOK) rfl ?_
   refine ⟨_, _, _, _, hc, ⟨rfl, rfl, rfl, rfl, trivial⟩, rfl, ?_⟩
   exact ⟨_, _, _, Le.refl _ _, rfl, rfl, ⟨rfl, rfl, rfl, rfl, trivial⟩, rfl⟩
/-! ### Remove -/
def edel : List DEn → List UInt8 → List DEn
 | [], _ => []
 | d :: L, nm => if d.nm = nm then L else d :: edel L nm
theorem edel_sub (L : List DEn) (nm : List UInt8) : (edel L nm).Sublist L := by
 induction L with
 | nil => exact .slnil
 | cons e L ih =>
   unfold edel
   split
   · exact List.sublist_cons_self ..
   · exact ih.cons_cons _
theorem edel_none {nm : List UInt8} : ∀ {L : List DEn}, ek L nm = none → edel L nm = L
 | [], _ => rfl
 | d :: L, h => by
   rw [ek_cons] at h
   unfold edel
   by_cases e : d.nm = nm
   · rw [if_pos e] at h; cases h
   · rw [if_neg e] at h
     rw [if_neg e, edel_none h]
theorem edel_E (nm : List UInt8) : ∀ L : List DEn, mdel (ku := .str) (vu := .adr) (dE L) nm = dE (edel L nm)
 | [] => rfl
 | d :: L => by
   have ih := edel_E nm L
   show mdel (ku := .str) (vu := .adr) (enE d :: dE L) nm = _
   rw [show mdel (ku := .str) (vu := .adr) (enE d :: dE L) nm = match eqKey .str (nm : El .str) (enE d).1 with | true => dE L | false => enE d :: mdel (ku := .str) (vu := .adr) (dE L) nm from rfl]
   unfold edel
   by_cases e : d.nm = nm
   · rw [show eqKey .str (nm : El .str) (enE d).1 = true from (eqKey_str _ _).2 e.symm, if_pos e]
   · rw [show eqKey .str (nm : El .str) (enE d).1 = false from eqKey_ne (ku := .str) eqKey_str (fun h => e h.symm), if_neg e]
     simp only
     rw [ih]
     rfl
theorem pdel_mapE {f : DEn → Nat × Ob} : ∀ {L : List DEn}, (L.map fun d => (f d).1).Nodup → ∀ {nm : List UInt8} {d0 : DEn}, ek L nm = some d0 → pdel (L.map f) (f d0).1 = (edel L nm).map f
 | [], _, nm, d0, h => by cases h
 | d :: L, hn, nm, d0, h => by
   rw [List.map_cons] at hn
   obtain ⟨n1, n2⟩ := List.nodup_cons.1 hn
   rw [ek_cons] at h
   rw [List.map_cons]
   unfold pdel edel
   by_cases e : d.nm = nm
   · rw [if_pos e] at h
     injection h with h
     subst h
     rw [if_pos rfl, if_pos e]
   · rw [if_neg e] at h
     have hne : ¬ (f d).1 = (f d0).1 := fun e2 => n1 (by rw [e2]; exact List.mem_map_of_mem (f := fun d => (f d).1) (ek_get h).1)
     rw [if_neg hne, if_neg e, List.map_cons, pdel_mapE n2 h]
theorem DOK.del {l : List DEn} (h : DOK l) (nm : List UInt8) : DOK (edel l nm) :=
 ⟨h.nms.sublist ((edel_sub l nm).map _), h.ads.sublist ((edel_sub l nm).map _), h.abs.sublist ((edel_sub l nm).map _), fun e he => h.ok e ((edel_sub l nm).subset he), Nat.le_trans (edel_sub l nm).length_le h.len⟩
theorem drm1_fn {l : List DEn} (h : DOK l) {nm : List UInt8} {e : DEn} (he : ek l nm = some e) : Fn Tryz.prog 242 [vAd e.ad, vP 3001, vP 3002] (dirB l ++ [(3001, .cells [.ptr 1001 0]), (3002, .cells [.d (.str nm)])]) [] vU (dirB (edel l nm) ++ [(3001, .cells [.ptr 1001 0]), (3002, .cells [.d (.str nm)])]) := by
 have hD := h.D (ek_get he).1
 have hM := h.M (ek_get he).1
 have eE := edel_E nm l
 have eD : pdel (dD l) e.ad = dD (edel l nm) := pdel_mapE (f := fD) h.ads he
 have eM : pdel (dM l) e.ab = dM (edel l nm) := pdel_mapE (f := fM) h.abs he
 refine Fn.of tblOK [] _ _ _ _ _ Tryz.func242 rfl rfl (by kernel_rfl) (by kernel_rfl) rfl (drawOK tblOK) rfl ?_
 refine ⟨indep_of (by kernel_rfl), ?_⟩
 exact ⟨_, _, _, (Le.takeOut 1003 6001 e.ad rfl hD rfl).trans (Le.takeOut 1004 6002 e.ab rfl hM rfl), rfl, trivial, ⟨rfl, congrArg (fun e => some (Ch.map .str .adr e)) eE, congrArg (fun e => some (Ch.obj (.pool e))) eD, congrArg (fun e => some (Ch.obj (.pool e))) eM, rfl, rfl, trivial⟩, rfl⟩
theorem dremove_fn {l : List DEn} (h : DOK l) (nm : List UInt8) : Fn Tryz.prog 166 [vP 1001, vS nm] (dirB l) [] (vI (hasE l nm)) (dirB (edel l nm)) := by
 cases he : ek l nm with
 | none =>
   have hc := dof_rm_no he
   rw [hasE_none he, edel_none he]
   refine Fn.of tblOK [] _ _ _ _ _ Tryz.func166 rfl rfl (by kernel_rfl) (by kernel_rfl) rfl (drawOK tblOK) rfl ?_
   refine ⟨rfl, rfl, ?_⟩
   refine ⟨_, _, _, _, Fn.ren [(3001, 2), (3002, 3)] hc, ⟨rfl, rfl, rfl, rfl, rfl, rfl, trivial⟩, rfl, ?_⟩
   exact ⟨_, _, _, Le.refl _ _, rfl, rfl, ⟨rfl, rfl, rfl, rfl, trivial⟩, rfl⟩
 | some e =>
   have hc := dof_rm he (drm1_fn h he)
   rw [hasE_some he]
   refine Fn.of tblOK [] _ _ _ _ _ Tryz.func166 rfl rfl (by kernel_rfl) (by kernel_rfl) rfl (drawOK tblOK) rfl ?_
   refine ⟨rfl, rfl, ?_⟩
   refine ⟨_, _, _, _, Fn.ren [(3001, 2), (3002, 3)] hc, ⟨rfl, rfl, rfl, rfl, rfl, rfl, trivial⟩, rfl, ?_⟩
   exact ⟨_, _, _, Le.refl _ _, rfl, rfl, ⟨rfl, rfl, rfl, rfl, trivial⟩, rfl⟩
/-! ### Get -/
theorem infEn : (Tryz.prog.info? 276).map (·.size) = some 4 := by kernel_rfl
@[reducible] def g4 (nm : List UInt8) (on us : Bool) : List S1 := [.d (.str nm), .d (.bool on), .d (.bool us), .ptr 5001 0]
theorem dget1_fn {l : List DEn} (h : DOK l) {e : DEn} (he : e ∈ l) : Fn Tryz.prog 305 [vAd e.ad, vP 3001] (dirB l ++ [(3001, .cells [.d (.str []), .d (.lit false), .d (.lit false), .raw (.pointer none)])]) [5001, 5002] vU (dirB l ++ [(3001, .cells (g4 e.nm e.on e.us)), (5001, .cells [.d (.int .i64 e.s), .d (.int .i64 e.g), .mp 5002]), (5002, .map uI uI e.es)]) := by
 obtain ⟨ib, ib1, ib2⟩ := inf_of infBz
 obtain ⟨ie, ie1, ie2⟩ := inf_of infEn
 have hD := h.D he
 have hM := h.M he
 have hc := bzcopyG hM
 refine Fn.of tblOK [] _ _ _ _ _ Tryz.func305 rfl rfl (by kernel_rfl) (by kernel_rfl) rfl (drawOK tblOK) rfl ?_
 refine ⟨_, _, fun N => opOK_nilAdr (b := e.ad) rfl rfl N, rfl, ?_⟩
 refine ⟨_, _, fun N => opOK_loadAgg (q := 1003) (l := enL e.nm e.on e.us e.ab) rfl Tryz.underlying276 rfl ie1 ie2 rfl rfl hD N, rfl, ?_⟩
 refine ⟨_, _, fun N => opOK_nilAdr (b := e.ad) rfl rfl N, rfl, ?_⟩
 refine ⟨_, _, fun N => opOK_fieldAdr rfl Tryz.underlying276 rfl rfl ib1 (by rw [ib2]; decide) rfl N, rfl, ?_⟩
 refine ⟨_, _, fun N => opOK_loadRaw (q := 1003) rfl Tryz.underlying135 rfl rfl rfl hD rfl N, rfl, ?_⟩
 refine ⟨_, _, _, _, hc, ⟨rfl, trivial⟩, rfl, ?_⟩
 exact ⟨_, _, _, Le.refl _ _, rfl, trivial, ⟨rfl, rfl, rfl, rfl, rfl, rfl, rfl, trivial⟩, rfl⟩
theorem dget_ok {l : List DEn} (h : DOK l) {nm : List UInt8} {e : DEn} (he : ek l nm = some e) : Fn Tryz.prog 252 [vP 1001, vS nm] (dirB l) [5001, 5002] (.tup [.agg (g4 e.nm e.on e.us), vErr 0]) (dirB l ++ [(5001, .cells [.d (.int .i64 e.s), .d (.int .i64 e.g), .mp 5002]), (5002, .map uI uI e.es)]) := by
 have hg := dget1_fn h (ek_get he).1
 rw [(ek_get he).2] at hg
 have hc := dof_gt e.on e.us e.s e.g e.es he hg
 rw [(ek_get he).2]
 refine Fn.of tblOK [] _ _ _ _ _ Tryz.func252 rfl rfl (by kernel_rfl) (by kernel_rfl) rfl (drawOK tblOK) rfl ?_
 refine ⟨rfl, rfl, ?_⟩
 refine ⟨_, _, _, _, Fn.ren [(3001, 6)] hc, ⟨rfl, rfl, rfl, rfl, rfl, trivial⟩, rfl, ?_⟩
 exact ⟨_, _, _, Le.refl _ _, rfl, ⟨⟨rfl, rfl, rfl, rfl, trivial⟩, rfl, trivial⟩, ⟨rfl, rfl, rfl, rfl, rfl, rfl, trivial⟩, rfl⟩
end Go.Proofs.YtojaemgabaehdaaGreat
/-!
  Directories: Write, Resize.
-/
namespace Go.Proofs.YtojaemgabaehdaaGreat
set_option linter.unusedVariables false
set_option linter.unusedSimpArgs false
set_option maxRecDepth 10000
open Go.RowKit Go.Proofs
/-- The entries of these addresses, turned. -/
def easU (u : DEn → DEn) (az : List Nat) (l : List DEn) : List DEn := l.map fun x => if x.ad ∈ az then u x else x
theorem easU_nil (u : DEn → DEn) (l : List DEn) : easU u [] l = l := by
 unfold easU
 refine (List.map_congr_left fun x _ => ?_).trans (List.map_id' l)
 rw [if_neg (by simp)]
theorem easU_all {u : DEn → DEn} {az : List Nat} {l : List DEn} (h : ∀ e, e ∈ l → e.ad ∈ az) : easU u az l = l.map u := by
 unfold easU
 exact List.map_congr_left fun x hx => if_pos (h x hx)
theorem easU_step {u : DEn → DEn} (hu : ∀ e, (u e).ad = e.ad) {az : List Nat} {a : Nat} (ha : a ∉ az) (l : List DEn) : eupd (easU u az l) a u = easU u (az ++ [a]) l := by
 unfold eupd easU
 rw [List.map_map]
 refine List.map_congr_left fun x _ => ?_
 show (if (if x.ad ∈ az then u x else x).ad = a then u (if x.ad ∈ az then u x else x) else (if x.ad ∈ az then u x else x)) = if x.ad ∈ az ++ [a] then u x else x
 by_cases h1 : x.ad ∈ az
 · have h2 : ¬ (u x).ad = a := by rw [hu]; exact fun e => ha (e ▸ h1)
   rw [if_pos h1, if_neg h2, if_pos (List.mem_append_left _ h1)]
 · rw [if_neg h1]
   by_cases h2 : x.ad = a
   · rw [if_pos h2, if_pos (by rw [h2]; simp)]
   · rw [if_neg h2, if_neg (by simp [h1, h2])]
structure UOK (u : DEn → DEn) : Prop where
 nm : ∀ e, (u e).nm = e.nm
 ad : ∀ e, (u e).ad = e.ad
 ab : ∀ e, (u e).ab = e.ab
 on : ∀ e, (u e).on = e.on
 us : ∀ e, (u e).us = e.us
 ok : ∀ e, (0 ≤ e.s ∧ e.s ≤ 4096) ∧ (1 ≤ e.g ∧ e.g ≤ 64) ∧ KNd e.es → (0 ≤ (u e).s ∧ (u e).s ≤ 4096) ∧ (1 ≤ (u e).g ∧ (u e).g ≤ 64) ∧ KNd (u e).es
theorem UOK.eas {u : DEn → DEn} (hu : UOK u) {l : List DEn} (h : DOK l) (az : List Nat) : DOK (easU u az l) := by
 have key : ∀ {β : Type} (f : DEn → β), (∀ e, f (u e) = f e) → (easU u az l).map f = l.map f := fun f hf => by
   unfold easU
   rw [List.map_map]
   refine List.map_congr_left fun x _ => ?_
   show f (if x.ad ∈ az then u x else x) = f x
   split
   · exact hf x
   · rfl
 refine ⟨by rw [key _ hu.nm]; exact h.nms, by rw [key _ hu.ad]; exact h.ads, by rw [key _ hu.ab]; exact h.abs, fun e he => ?_, by unfold easU; rw [List.length_map]; exact h.len⟩
 obtain ⟨x, hx, rfl⟩ := List.mem_map.1 he
 obtain ⟨k1, k2, k3, k4⟩ := h.ok x hx
 by_cases hc : x.ad ∈ az
 · rw [if_pos hc]
   obtain ⟨j1, j2, j3⟩ := hu.ok x ⟨k1, k2, k3⟩
   exact ⟨j1, j2, j3, by rw [hu.nm]; exact k4⟩
 · rw [if_neg hc]; exact ⟨k1, k2, k3, k4⟩
theorem UOK.E {u : DEn → DEn} (hu : UOK u) (az : List Nat) (l : List DEn) : dE (easU u az l) = dE l := by
 unfold dE easU
 rw [List.map_map]
 refine List.map_congr_left fun x _ => ?_
 show enE (if x.ad ∈ az then u x else x) = enE x
 split
 · unfold enE; rw [hu.nm, hu.ad]
 · rfl
theorem UOK.D {u : DEn → DEn} (hu : UOK u) (az : List Nat) (l : List DEn) : dD (easU u az l) = dD l := by
 unfold dD easU
 rw [List.map_map]
 refine List.map_congr_left fun x _ => ?_
 show fD (if x.ad ∈ az then u x else x) = fD x
 split
 · unfold fD; rw [hu.nm, hu.ad, hu.ab, hu.on, hu.us]
 · rfl
theorem UOK.M {u : DEn → DEn} (hu : UOK u) {l : List DEn} (h : DOK l) {az : List Nat} {e : DEn} (he : e ∈ l) (ha : e.ad ∉ az) : pset (dM (easU u az l)) e.ab (bzO (u e).s (u e).g (u e).es) = dM (easU u (az ++ [e.ad]) l) := by
 have hm : e ∈ easU u az l := List.mem_map.2 ⟨e, he, if_neg ha⟩
 rw [← easU_step hu.ad ha, ← eupd_M (hu.eas h az) hm (hu.ab e)]
theorem UOK.get {u : DEn → DEn} (hu : UOK u) {l : List DEn} (h : DOK l) {az : List Nat} {e : DEn} (he : e ∈ l) (ha : e.ad ∉ az) : pget (dM (easU u az l)) e.ab = some (bzO e.s e.g e.es) :=
 (hu.eas h az).M (List.mem_map.2 ⟨e, he, if_neg ha⟩)
theorem UOK.map {u : DEn → DEn} (hu : UOK u) {l : List DEn} (h : DOK l) : DOK (l.map u) := by
 have := hu.eas h (l.map (·.ad))
 rw [easU_all fun e he => List.mem_map_of_mem he] at this
 exact this
/-! ### the births -/
abbrev EnA := Nat × (El .str × El .adr)
def adO (p : EnA) : Option Nat := p.2.2
structure SeenA (l : List DEn) (lx : List EnA) (seen az : List Nat) : Prop where
 iff : ∀ p, p ∈ lx → ∀ a, adO p = some a → (p.1 ∈ seen ↔ a ∈ az)
theorem lx_ent {l : List DEn} {lx : List EnA} (hs : lx.map (·.2) = dE l) {p : EnA} (hp : p ∈ lx) : ∃ e, e ∈ l ∧ p.2 = enE e := by
 have : p.2 ∈ dE l := by rw [← hs]; exact List.mem_map_of_mem hp
 obtain ⟨e, he, e2⟩ := List.mem_map.1 this
 exact ⟨e, he, e2.symm⟩
theorem lx_ads {l : List DEn} (h : DOK l) {lx : List EnA} (hs : lx.map (·.2) = dE l) : (lx.map adO).Nodup := by
 have : lx.map adO = (l.map (·.ad)).map some := by
   have e : lx.map adO = (lx.map (·.2)).map (fun q : El .str × El .adr => (show Option Nat from q.2)) := by rw [List.map_map]; rfl
   rw [e, hs]
   unfold dE
   rw [List.map_map, List.map_map]
   rfl
 rw [this]
 exact List.Pairwise.map _ (fun a b hab e => hab (by injection e)) h.ads
theorem SeenA.nil (l : List DEn) (lx : List EnA) : SeenA l lx [] [] := ⟨fun _ _ _ _ => by simp⟩
theorem SeenA.step {l : List DEn} {lx : List EnA} {seen az : List Nat} (h : SeenA l lx seen az) (hb : (lx.map (·.1)).Nodup) (ha : (lx.map adO).Nodup) {p : EnA} (hp : p ∈ lx) {a : Nat} (e : adO p = some a) : SeenA l lx (seen ++ [p.1]) (az ++ [a]) := by
 refine ⟨fun q hq b hb' => ?_⟩
 have h1 := h.iff q hq b hb'
 have h2 : q.1 = p.1 ↔ b = a := ⟨fun e1 => by
   have := nodup_inj hb hq hp e1
   subst this
   rw [e] at hb'
   injection hb' with e3
   exact e3.symm, fun e1 => by
   have := nodup_inj ha hq hp (hb'.trans (by rw [e1, e]))
   rw [this]⟩
 simp only [List.mem_append, List.mem_singleton, h1, h2]
def unsA (seen : List Nat) (l : List EnA) : List EnA := l.filter fun p => !seen.contains p.1
theorem unsA_lt {seen : List Nat} {l : List EnA} {p : EnA} (hp : p ∈ l) (hn : p.1 ∉ seen) : (unsA (seen ++ [p.1]) l).length < (unsA seen l).length := by
 have e : unsA (seen ++ [p.1]) l = (unsA seen l).filter fun q => !decide (q.1 = p.1) := by
   unfold unsA
   rw [List.filter_filter]
   refine List.filter_congr fun q _ => ?_
   by_cases e : q.1 = p.1 <;> simp [e]
 rw [e]
 have hm : p ∈ unsA seen l := List.mem_filter.2 ⟨hp, by simp [hn]⟩
 exact List.length_filter_lt_length_iff_exists.2 ⟨p, hm, by simp⟩
@[reducible] def drB (it : Nat) (u : DEn → DEn) (l : List DEn) (b clock : Nat) (lx : List EnA) (seen az : List Nat) : BL := [(1001, .cells [.mp 1002]), (1002, .obj (.mapG b .str .adr lx clock)), (1003, .obj (.pool (dD l))), (1004, .obj (.pool (dM (easU u az l)))), (it, .obj (.iterG b clock seen clock))]
/-! ### Write -/
def wrE (fr lg : Int) (e : DEn) : DEn := { e with es := if e.on = true then bzSet e.s e.g e.es fr lg else e.es }
theorem wrE_ok (fr lg : Int) : UOK (wrE fr lg) := by
 refine ⟨fun _ => rfl, fun _ => rfl, fun _ => rfl, fun _ => rfl, fun _ => rfl, fun e h => ⟨h.1, h.2.1, ?_⟩⟩
 show KNd (if e.on = true then bzSet e.s e.g e.es fr lg else e.es)
 split
 · exact bzSet_nd h.2.2 fr lg
 · exact h.2.2
set_option maxHeartbeats 1000000 in
theorem dwrite_fn {l : List DEn} (h : DOK l) (fr lg : Int) : Fn Tryz.prog 81 [vP 1001, vI fr, vI lg] (dirB l) [] vU (dirB (l.map (wrE fr lg))) := by
 have hu := wrE_ok fr lg
 obtain ⟨ia, ia1, ia2⟩ := inf_of infBool
 obtain ⟨ib, ib1, ib2⟩ := inf_of infBz
 refine Fn.of tblOK [0] _ _ _ _ _ Tryz.func81 rfl rfl (by kernel_rfl) (by kernel_rfl) rfl (drawOK tblOK) rfl ?_
 show TrQ _ _ _ _ _ _ _
 refine TrQ.leX (LeX.nameMap 1002 rfl) fun x => ?_
 obtain ⟨b, lx, clock, hsnd, hrise, hlt⟩ := x
 have hb : (lx.map (·.1)).Nodup := hrise.imp fun h => by omega
 have ha := lx_ads h hsnd
 refine TrQ.go tblOK (drawOK tblOK) [] (by kernel_rfl) (Le.refl _ _) ?_
 refine ⟨_, _, fun N => opOK_range (d := 12) rfl Tryz.underlying262 rfl rfl N, rfl, ?_⟩
 show TrQ _ _ _ _ _ _ _
 refine TrQ.loop tblOK (drawOK tblOK) [1] (by kernel_rfl) (X := List Nat × List Nat) (fun _ => [(1, vI fr), (2, vI lg), (12, vP 12)]) (fun x => drB 12 (wrE fr lg) l b clock lx x.1 x.2) (fun x => SeenA l lx x.1 x.2) (fun x => (unsA x.1 lx).length) ([], []) (SeenA.nil l lx) ?_ ?_
 · exact Le.sub ⟨rfl, rfl, rfl, trivial⟩ ⟨rfl, rfl, rfl, (by show _ = some (Ch.obj (.pool (dM (easU (wrE fr lg) [] l)))); rw [easU_nil]; rfl), rfl, trivial⟩
 rintro ⟨seen, az⟩ hsa
 have hsa : SeenA l lx seen az := hsa
 show TrQ _ _ _ _ _ _ _
 refine TrQ.regionX tblOK (by kernel_rfl) ?_
 refine ⟨_, opS_next (c := 1002) (r := 12) rfl rfl rfl rfl (fun p hp => hlt _ (List.mem_map_of_mem hp)) (Nat.le_refl _), fun v e hv => ?_⟩
 rcases hv with ⟨p, hp, hs1, rfl, rfl⟩ | ⟨hall, rfl, rfl⟩
 · obtain ⟨e, he, hpe⟩ := lx_ent hsnd hp
   have hpa : adO p = some e.ad := by unfold adO; rw [hpe]
   have hna : e.ad ∉ az := fun hm => hs1 ((hsa.iff p hp e.ad hpa).2 hm)
   have hst := hsa.step hb ha hp hpa
   have hlt2 := unsA_lt hp hs1
   have hD := h.D he
   have hM := hu.get h he hna
   have hM2 := hu.M h he hna
   obtain ⟨k1, k2, k3, k4⟩ := h.ok e he
   have hset := bzPool (bzset_fn e.s e.g e.es fr lg k1 k2) hM rfl rfl rfl rfl
   have hc : (if e.on = true then bzSet e.s e.g e.es fr lg else e.es) = (wrE fr lg e).es := rfl
   have hx : p.2.2 = (some e.ad : Option Nat) := hpa
   refine ⟨_, _, fun N => opOK_entry (c := 1002) (r := 12) (p := p) rfl rfl rfl rfl hp N, rfl, ?_⟩
   refine ⟨_, _, fun N => opOK_nilAdr (b := e.ad) rfl (by exact adrV_eq hx) N, rfl, ?_⟩
   refine ⟨_, _, fun N => opOK_fieldAdr rfl Tryz.underlying276 rfl rfl ia1 (by rw [ia2]; decide) rfl N, rfl, ?_⟩
   refine ⟨_, _, fun N => opOK_loadRaw (q := 1003) rfl Tryz.underlying4 rfl rfl rfl hD rfl N, rfl, ?_⟩
   refine ⟨fun hon => ?_, fun hon => ?_⟩
   · have hon : e.on = true := hon
     rw [if_pos hon] at hc
     rw [hc] at hset
     change Fn _ _ _ _ _ _ [(1004, .obj (.pool (pset (dM (easU (wrE fr lg) az l)) e.ab (bzO (wrE fr lg e).s (wrE fr lg e).g (wrE fr lg e).es))))] at hset
     rw [hM2] at hset
     refine ⟨_, _, fun N => opOK_nilAdr (b := e.ad) rfl (by exact adrV_eq hx) N, rfl, ?_⟩
     refine ⟨_, _, fun N => opOK_fieldAdr rfl Tryz.underlying276 rfl rfl ib1 (by rw [ib2]; decide) rfl N, rfl, ?_⟩
     refine ⟨_, _, fun N => opOK_loadRaw (q := 1003) rfl Tryz.underlying135 rfl rfl rfl hD rfl N, rfl, ?_⟩
     refine ⟨_, _, _, _, hset, ⟨rfl, trivial⟩, rfl, ?_⟩
     exact ⟨(seen ++ [p.1], az ++ [e.ad]), hst, hlt2, Le.sub ⟨rfl, rfl, rfl, trivial⟩ ⟨rfl, rfl, rfl, rfl, rfl, trivial⟩⟩
   · have hon : e.on = false := hon
     rw [if_neg (by rw [hon]; decide)] at hc
     have e1 : bzO (wrE fr lg e).s (wrE fr lg e).g (wrE fr lg e).es = bzO e.s e.g e.es := by rw [← hc]; rfl
     rw [e1, pset_self hM] at hM2
     exact ⟨(seen ++ [p.1], az ++ [e.ad]), hst, hlt2, Le.sub ⟨rfl, rfl, rfl, trivial⟩ ⟨rfl, rfl, rfl, congrArg (fun z => some (Ch.obj (.pool z))) hM2, rfl, trivial⟩⟩
 · have hal : ∀ e, e ∈ l → e.ad ∈ az := fun e he => by
     have : enE e ∈ lx.map (·.2) := by rw [hsnd]; exact List.mem_map_of_mem he
     obtain ⟨p, hp, e2⟩ := List.mem_map.1 this
     exact (hsa.iff p hp e.ad (by unfold adO; rw [e2])).1 (hall p hp)
   have eA := easU_all (u := wrE fr lg) hal
   have eE : lx.map (·.2) = dE (l.map (wrE fr lg)) := by rw [hsnd, ← eA, hu.E]
   have eD : dD l = dD (l.map (wrE fr lg)) := by rw [← eA, hu.D]
   exact ⟨_, _, _, Le.mapOf 1002 rfl, rfl, trivial, ⟨rfl, congrArg (fun z => some (Ch.map .str .adr z)) eE, congrArg (fun z => some (Ch.obj (.pool z))) eD, congrArg (fun z => some (Ch.obj (.pool (dM z)))) eA, trivial⟩, rfl⟩
/-! ### Resize -/
def rsE (s' : Int) (e : DEn) : DEn := if 0 ≤ s' ∧ s' ≤ 4096 then { e with s := s', es := bzRes e.s e.g e.es s' } else e
theorem rsE_ok (s' : Int) (hs : 0 ≤ s' ∧ s' ≤ 4096) : UOK (rsE s') := by
 have e0 : ∀ e, rsE s' e = { e with s := s', es := bzRes e.s e.g e.es s' } := fun e => if_pos hs
 exact ⟨fun e => by rw [e0], fun e => by rw [e0], fun e => by rw [e0], fun e => by rw [e0], fun e => by rw [e0], fun e h => by rw [e0]; exact ⟨hs, h.2.1, bzRes_nd h.2.2 s'⟩⟩
theorem dresize_no {l : List DEn} (s' : Int) (hs : ¬ (0 ≤ s' ∧ s' ≤ 4096)) : Fn Tryz.prog 170 [vP 1001, vI s'] (dirB l) [] (vI 1) (dirB (l.map (rsE s'))) := by
 have e0 : l.map (rsE s') = l := (List.map_congr_left fun e _ => if_neg hs).trans (List.map_id' l)
 have hb : bzOK s' 1 = false := by
   unfold bzOK
   by_cases h1 : 0 ≤ s'
   · rw [decide_eq_true h1, decide_eq_false (fun h2 => hs ⟨h1, h2⟩)]; rfl
   · rw [decide_eq_false h1]; rfl
 have hn := bznew_no s' 1 hb
 rw [e0]
 refine Fn.of tblOK [] _ _ _ _ _ Tryz.func170 rfl rfl (by kernel_rfl) (by kernel_rfl) rfl (drawOK tblOK) rfl ?_
 refine ⟨_, _, _, _, hn, trivial, rfl, ?_⟩
 refine ⟨fun _ => ?_, fun h => absurd h (by decide)⟩
 exact ⟨_, _, _, Le.refl _ _, rfl, rfl, ⟨rfl, rfl, rfl, rfl, trivial⟩, rfl⟩
theorem bzgrain1 {s : Int} (hs : 0 ≤ s ∧ s ≤ 4096) : bzOK s 1 = true := by
 unfold bzOK
 rw [decide_eq_true hs.1, decide_eq_true hs.2]
 rfl
set_option maxHeartbeats 1000000 in
theorem dresize_ok {l : List DEn} (h : DOK l) (s' : Int) (hs : 0 ≤ s' ∧ s' ≤ 4096) : Fn Tryz.prog 170 [vP 1001, vI s'] (dirB l) [] (vI 0) (dirB (l.map (rsE s'))) := by
 have hu := rsE_ok s' hs
 have e0 : ∀ e, rsE s' e = { e with s := s', es := bzRes e.s e.g e.es s' } := fun e => if_pos hs
 have hnew := bznew_ok s' 1 (bzgrain1 hs)
 obtain ⟨ib, ib1, ib2⟩ := inf_of infBz
 refine Fn.of tblOK [4] _ _ _ _ _ Tryz.func170 rfl rfl (by kernel_rfl) (by kernel_rfl) rfl (drawOK tblOK) rfl ?_
 refine ⟨_, _, _, _, hnew, trivial, rfl, ?_⟩
 refine ⟨fun h => absurd h (by decide), fun _ => ?_⟩
 show TrQ _ _ _ _ _ _ _
 refine TrQ.le (Le.sub (K' := [(0, vP 1001), (1, vI s')]) (B' := dirB l) ⟨rfl, rfl, trivial⟩ ⟨rfl, rfl, rfl, rfl, trivial⟩) ?_
 refine TrQ.leX (LeX.nameMap 1002 rfl) fun x => ?_
 obtain ⟨b, lx, clock, hsnd, hrise, hlt⟩ := x
 have hb : (lx.map (·.1)).Nodup := hrise.imp fun h => by omega
 have ha := lx_ads h hsnd
 refine TrQ.go tblOK (drawOK tblOK) [] (by kernel_rfl) (Le.refl _ _) ?_
 refine ⟨_, _, fun N => opOK_range (d := 21) rfl Tryz.underlying262 rfl rfl N, rfl, ?_⟩
 show TrQ _ _ _ _ _ _ _
 refine TrQ.loop tblOK (drawOK tblOK) [5] (by kernel_rfl) (X := List Nat × List Nat) (fun _ => [(1, vI s'), (21, vP 21)]) (fun x => drB 21 (rsE s') l b clock lx x.1 x.2) (fun x => SeenA l lx x.1 x.2) (fun x => (unsA x.1 lx).length) ([], []) (SeenA.nil l lx) ?_ ?_
 · exact Le.sub ⟨rfl, rfl, trivial⟩ ⟨rfl, rfl, rfl, (by show _ = some (Ch.obj (.pool (dM (easU (rsE s') [] l)))); rw [easU_nil]; rfl), rfl, trivial⟩
 rintro ⟨seen, az⟩ hsa
 have hsa : SeenA l lx seen az := hsa
 show TrQ _ _ _ _ _ _ _
 refine TrQ.regionX tblOK (by kernel_rfl) ?_
 refine ⟨_, opS_next (c := 1002) (r := 21) rfl rfl rfl rfl (fun p hp => hlt _ (List.mem_map_of_mem hp)) (Nat.le_refl _), fun v e hv => ?_⟩
 rcases hv with ⟨p, hp, hs1, rfl, rfl⟩ | ⟨hall, rfl, rfl⟩
 · obtain ⟨e, he, hpe⟩ := lx_ent hsnd hp
   have hpa : adO p = some e.ad := by unfold adO; rw [hpe]
   have hna : e.ad ∉ az := fun hm => hs1 ((hsa.iff p hp e.ad hpa).2 hm)
   have hst := hsa.step hb ha hp hpa
   have hlt2 := unsA_lt hp hs1
   have hD := h.D he
   have hM := hu.get h he hna
   have hM2 := hu.M h he hna
   obtain ⟨k1, k2, k3, k4⟩ := h.ok e he
   have hset := bzPool (bzresize_fn e.s e.g e.es s' k1 hs k2 (knd_nodup k3)) hM rfl rfl rfl rfl
   have e1 : bzO (rsE s' e).s (rsE s' e).g (rsE s' e).es = bzO s' e.g (bzRes e.s e.g e.es s') := by rw [e0]
   rw [← e1, hM2] at hset
   have hx : p.2.2 = (some e.ad : Option Nat) := hpa
   refine ⟨_, _, fun N => opOK_entry (c := 1002) (r := 21) (p := p) rfl rfl rfl rfl hp N, rfl, ?_⟩
   refine ⟨_, _, fun N => opOK_nilAdr (b := e.ad) rfl (by exact adrV_eq hx) N, rfl, ?_⟩
   refine ⟨_, _, fun N => opOK_fieldAdr rfl Tryz.underlying276 rfl rfl ib1 (by rw [ib2]; decide) rfl N, rfl, ?_⟩
   refine ⟨_, _, fun N => opOK_loadRaw (q := 1003) rfl Tryz.underlying135 rfl rfl rfl hD rfl N, rfl, ?_⟩
   refine ⟨_, _, _, _, hset, ⟨rfl, trivial⟩, rfl, ?_⟩
   exact ⟨(seen ++ [p.1], az ++ [e.ad]), hst, hlt2, Le.sub ⟨rfl, rfl, trivial⟩ ⟨rfl, rfl, rfl, rfl, rfl, trivial⟩⟩
 · have hal : ∀ e, e ∈ l → e.ad ∈ az := fun e he => by
     have : enE e ∈ lx.map (·.2) := by rw [hsnd]; exact List.mem_map_of_mem he
     obtain ⟨p, hp, e2⟩ := List.mem_map.1 this
     exact (hsa.iff p hp e.ad (by unfold adO; rw [e2])).1 (hall p hp)
   have eA := easU_all (u := rsE s') hal
   have eE : lx.map (·.2) = dE (l.map (rsE s')) := by rw [hsnd, ← eA, hu.E]
   have eD : dD l = dD (l.map (rsE s')) := by rw [← eA, hu.D]
   exact ⟨_, _, _, Le.mapOf 1002 rfl, rfl, rfl, ⟨rfl, congrArg (fun z => some (Ch.map .str .adr z)) eE, congrArg (fun z => some (Ch.obj (.pool z))) eD, congrArg (fun z => some (Ch.obj (.pool (dM z)))) eA, trivial⟩, rfl⟩
end Go.Proofs.YtojaemgabaehdaaGreat
/-!
  Directories: Merge.
-/
namespace Go.Proofs.YtojaemgabaehdaaGreat
set_option linter.unusedVariables false
set_option linter.unusedSimpArgs false
set_option maxRecDepth 10000
open Go.RowKit Go.Proofs
/-- A contract on an object, wherever that lies. -/
theorem Fn.atB {P : Program} {f : FuncId} {args : List SV} {c b : Nat} {Bi : BL} {nw : List Nat} {res : SV} {Bo : BL} {o o' : Ob} (h : Fn P f args ((c, .obj o) :: Bi) nw res ((c, .obj o') :: Bo)) (hc : nw.contains c = false) : Fn P f args ((c, .obj (o.at b)) :: Bi) nw res ((c, .obj (o'.at b)) :: Bo) := by
 have hcn : c ∉ nw := not_mem_of hc
 have key : ∀ {X : BL} {z z' : Ob} {d : Nat} {ch : Ch}, lookB ((c, Ch.obj z) :: X) d = some ch → (d = c ∧ ch = .obj z) ∨ (d ≠ c ∧ lookB X d = some ch) := fun {X z z' d ch} hd => by
   rw [lookB_cons] at hd
   split at hd
   · rename_i e; injection hd with hd; exact .inl ⟨e.symm, hd.symm⟩
   · rename_i e; exact .inr ⟨fun e2 => e e2.symm, hd⟩
 have to : ∀ {X : BL} {z z' : Ob} {d : Nat} {ch : Ch}, lookB ((c, Ch.obj z) :: X) d = some ch → ∃ ch', lookB ((c, Ch.obj z') :: X) d = some ch' := fun {X z z' d ch} hd => by
   rcases key (z' := z) hd with ⟨rfl, _⟩ | ⟨e, hd⟩
   · exact ⟨_, by rw [lookB_cons, if_pos rfl]⟩
   · exact ⟨ch, by rw [lookB_cons, if_neg (Ne.symm e)]; exact hd⟩
 refine ⟨h.1, fun ρ F I w vals a1 a2 a3 a4 a5 a6 => ?_⟩
 have hl : lookB ((c, Ch.obj (o.at b)) :: Bi) c = some (.obj (o.at b)) := by rw [lookB_cons, if_pos rfl]
 have hO : (ρ c).blk = b ∧ o.R I (F c) w (ρ c) := a2 c _ hl
 refine (h.2 ρ F I w vals a1 (fun d ch hd => ?_) (fun d ch hd x hx => ?_) (fun d d' ch ch' x h1 h2 => ?_) a5 a6).mono ?_
 · rcases key (z' := o) hd with ⟨rfl, rfl⟩ | ⟨e, hd⟩
   · exact hO.2
   · exact a2 d ch (by rw [lookB_cons, if_neg (Ne.symm e)]; exact hd)
 · obtain ⟨ch', h'⟩ := to (z' := o.at b) hd
   exact a3 d ch' h' x hx
 · obtain ⟨c1, g1⟩ := to (z' := o.at b) h1
   obtain ⟨c2, g2⟩ := to (z' := o.at b) h2
   exact a4 d d' c1 c2 x g1 g2
 · rintro e w' ⟨x, ρ', F', r1, r2, r3, I', r4, r5, r6, r7, r8, r9⟩
   have hF : ∀ y, (∃ d ch, lookB ((c, Ch.obj o) :: Bi) d = some ch ∧ F d y) → ∃ d ch, lookB ((c, Ch.obj (o.at b)) :: Bi) d = some ch ∧ F d y := fun y ⟨d, ch, g1, g2⟩ => by
     obtain ⟨ch', g3⟩ := to (z' := o.at b) g1
     exact ⟨d, ch', g3, g2⟩
   refine ⟨x, ρ', F', r1, r2.mono fun y _ hy => hF y hy, r3, I', r4, fun y hy => ⟨(r5 y hy).1, (r5 y hy).2.imp id (Or.imp (hF y) id)⟩, fun d ch hd => ?_, fun d ch hd y hy => ?_, fun d d' ch ch' y g1 g2 hne hy => ?_, r9⟩
   · rcases key (z' := o') hd with ⟨rfl, rfl⟩ | ⟨e, hd⟩
     · have := r6 d _ (by rw [lookB_cons, if_pos rfl])
       exact ⟨by rw [r3 d hcn]; exact hO.1, this⟩
     · exact r6 d ch (by rw [lookB_cons, if_neg (Ne.symm e)]; exact hd)
   · obtain ⟨ch', g3⟩ := to (z' := o') hd
     obtain ⟨q1, q2, q3⟩ := r7 d ch' g3 y hy
     exact ⟨q1, q2, q3.imp (hF y) id⟩
   · obtain ⟨c1, q1⟩ := to (z' := o') g1
     obtain ⟨c2, q2⟩ := to (z' := o') g2
     exact r8 d d' c1 c2 y q1 q2 hne hy
theorem Fn.congrB {P : Program} {f : FuncId} {args : List SV} {Bi Bi' : BL} {nw : List Nat} {res : SV} {Bo Bo' : BL} (h : Fn P f args Bi nw res Bo) (h1 : ∀ c, lookB Bi' c = lookB Bi c) (h2 : ∀ c, lookB Bo' c = lookB Bo c) : Fn P f args Bi' nw res Bo' := by
 unfold Fn at h ⊢
 simpa only [h1, h2] using h
/-! ### bits of the pool, merged -/
theorem pget_c {a b : Nat} {o : Ob} {L : List (Nat × Ob)} : pget ((a, o) :: L) b = if a = b then some o else pget L b := rfl
theorem pset_c {a b : Nat} {o x : Ob} {L : List (Nat × Ob)} : pset ((a, x) :: L) b o = if a = b then (a, o) :: L else (a, x) :: pset L b o := rfl
theorem pdel_c {a b : Nat} {o : Ob} {L : List (Nat × Ob)} : pdel ((a, o) :: L) b = if a = b then L else (a, o) :: pdel L b := rfl
theorem pget_pset_ne {b b' : Nat} {o : Ob} (hne : b ≠ b') : ∀ L : List (Nat × Ob), pget (pset L b' o) b = pget L b
 | [] => rfl
 | (a, x) :: L => by
   rw [pset_c]
   by_cases e : a = b'
   · have hab : ¬ a = b := fun e2 => hne (e2.symm.trans e)
     rw [if_pos e, pget_c, pget_c, if_neg hab, if_neg hab]
   · rw [if_neg e, pget_c, pget_c, pget_pset_ne hne L]
theorem pget_pdel {b b' : Nat} (hne : b ≠ b') : ∀ L : List (Nat × Ob), pget (pdel L b') b = pget L b
 | [] => rfl
 | (a, o) :: L => by
   rw [pdel_c, pget_c]
   by_cases e : a = b'
   · rw [if_pos e, if_neg (fun e2 => hne (e2.symm.trans e))]
   · rw [if_neg e, pget_c, pget_pdel hne L]
theorem pset_pdel {b b' : Nat} {o : Ob} (hne : b ≠ b') : ∀ L : List (Nat × Ob) , pset (pdel L b') b o = pdel (pset L b o) b'
 | [] => rfl
 | (a, x) :: L => by
   rw [pdel_c, pset_c]
   by_cases e : a = b'
   · have hab : ¬ a = b := fun e2 => hne (e2.symm.trans e)
     rw [if_pos e, if_neg hab, pdel_c, if_pos e]
   · by_cases e2 : a = b
     · rw [if_neg e, if_pos e2, pset_c, if_pos e2, pdel_c, if_neg e]
     · rw [if_neg e, if_neg e2, pset_c, if_neg e2, pdel_c, if_neg e, pset_pdel hne L]
theorem bzmergeP {s g s' g' s2 g2 : Int} {es es' es2 : List (El uI × El uI)} {M : List (Nat × Ob)} {b1 b2 : Nat} {r : Int} (h : Fn Tryz.prog 246 [vP 1001, vP 3001] (bzmergeB s g es s2 g2 es2) [] (vI r) (bzmergeB s' g' es' s2 g2 es2))
   (h1 : pget M b1 = some (bzO s g es)) (h2 : pget M b2 = some (bzO s2 g2 es2)) (hne : b1 ≠ b2) : Fn Tryz.prog 246 [vAd b1, vAd b2] [(1004, .obj (.pool M))] [] (vI r) [(1004, .obj (.pool (pset M b1 (bzO s' g' es'))))] := by
 have c1 : Fn Tryz.prog 246 [vP 1001, vP 3001] [(1001, .obj (bzO s g es)), (3001, .cells [.d (.int .i64 s2), .d (.int .i64 g2), .mp 3002]), (3002, .map uI uI es2)] [] (vI r) [(1001, .obj (bzO s' g' es')), (3001, .cells [.d (.int .i64 s2), .d (.int .i64 g2), .mp 3002]), (3002, .map uI uI es2)] :=
   Fn.close (Bl := bzB s g es) (Bl' := bzB s' g' es') (Bi := bzS 3001 3002 s2 g2 es2) (Bo := bzS 3001 3002 s2 g2 es2) [1002] h (fun _ _ _ _ h => h) (fun _ _ _ _ h => h) rfl rfl
 have c1' : Fn Tryz.prog 246 [vP 1001, vP 3001] (bzS 3001 3002 s2 g2 es2 ++ [(1001, .obj (bzO s g es))]) [] (vI r) (bzS 3001 3002 s2 g2 es2 ++ [(1001, .obj (bzO s' g' es'))]) := Fn.congrB c1 (by
   intro d
   by_cases e1 : 1001 = d
   · subst e1; rfl
   by_cases e2 : 3001 = d
   · subst e2; rfl
   by_cases e3 : 3002 = d
   · subst e3; rfl
   simp [lookB_cons, e1, e2, e3]) (by
   intro d
   by_cases e1 : 1001 = d
   · subst e1; rfl
   by_cases e2 : 3001 = d
   · subst e2; rfl
   by_cases e3 : 3002 = d
   · subst e3; rfl
   simp [lookB_cons, e1, e2, e3])
 have c2 : Fn Tryz.prog 246 [vP 1001, vP 3001] [(3001, .obj (bzO s2 g2 es2)), (1001, .obj (bzO s g es))] [] (vI r) [(3001, .obj (bzO s2 g2 es2)), (1001, .obj (bzO s' g' es'))] :=
   Fn.close (Bl := bzS 3001 3002 s2 g2 es2) (Bl' := bzS 3001 3002 s2 g2 es2) (Bi := [(1001, .obj (bzO s g es))]) (Bo := [(1001, .obj (bzO s' g' es'))]) [3002] c1' (fun _ _ _ _ h => grpR.ren [(1001, 3001), (1002, 3002)] h) (fun _ _ _ _ h => grpR.ren [(3001, 1001), (3002, 1002)] h) rfl rfl
 have c3 : Fn Tryz.prog 246 [vP 1001, vP 3001] [(1001, .obj (bzO s g es)), (3001, .obj ((bzO s2 g2 es2).at b2))] [] (vI r) [(1001, .obj (bzO s' g' es')), (3001, .obj ((bzO s2 g2 es2).at b2))] := Fn.congrB (Fn.atB (b := b2) c2 rfl) (by
   intro d
   by_cases e1 : 1001 = d
   · subst e1; rfl
   by_cases e2 : 3001 = d
   · subst e2; rfl
   by_cases e3 : 3002 = d
   · subst e3; rfl
   simp [lookB_cons, e1, e2, e3]) (by
   intro d
   by_cases e1 : 1001 = d
   · subst e1; rfl
   by_cases e2 : 3001 = d
   · subst e2; rfl
   by_cases e3 : 3002 = d
   · subst e3; rfl
   simp [lookB_cons, e1, e2, e3])
 have c4 := (FnX.pool (c := 1001) (q := 1004) (b := b1) (args := [vP 3001]) (Bi := [(3001, .obj ((bzO s2 g2 es2).at b2))]) (nw := []) (X := Unit) (res := fun _ => vI r) (Bo := fun _ => [(3001, .obj ((bzO s2 g2 es2).at b2))]) (o := bzO s g es) (o' := fun _ => bzO s' g' es') (L := pdel M b2) c3.x (by rw [pget_pdel hne]; exact h1) rfl ⟨rfl, rfl⟩ rfl (fun _ => rfl)).fn
 refine Fn.via (X := Unit) (args' := fun _ => [vAd b1, vP 3001]) (B1 := fun _ => [(3001, .obj ((bzO s2 g2 es2).at b2)), (1004, .obj (.pool (pdel M b2)))]) (Bi' := fun _ => [(1004, .obj (.pool (pdel M b2))), (3001, .obj ((bzO s2 g2 es2).at b2))]) (nw' := fun _ => []) (res' := fun _ => vI r) (Bo' := fun _ => [(1004, .obj (.pool (pset (pdel M b2) b1 (bzO s' g' es')))), (3001, .obj ((bzO s2 g2 es2).at b2))]) c4.1 2 rfl ?_ (fun _ => c4) (fun _ => ⟨rfl, rfl, trivial⟩) (fun _ => rfl) (fun _ => rfl) (fun _ => ⟨vI r, [(1004, .obj (.pool (pset (pset M b1 (bzO s' g' es')) b2 (bzO s2 g2 es2))))], Le.trans (Le.putAt (o := bzO s2 g2 es2) (L := pset M b1 (bzO s' g' es')) 1004 3001 b2 ?_ rfl ?_ (by decide)) (Le.sub ⟨rfl, trivial⟩ ⟨rfl, trivial⟩), rfl, ?_, rfl⟩)
 · rintro N C a w hs
   have hle : Le (keysB [(1004, .obj (.pool M))]) (argsK 0 [vAd b1, vAd b2]) [(1004, .obj (.pool M))] (argsK 0 [vAd b1, vP 3001]) [(3001, .obj ((bzO s2 g2 es2).at b2)), (1004, .obj (.pool (pdel M b2)))] :=
     Le.trans (Le.takeOut 1004 3001 b2 rfl h2 rfl) (Le.trans (Le.ofAt 1 3001 b2 rfl rfl) (Le.sub ⟨rfl, rfl, trivial⟩ ⟨rfl, rfl, trivial⟩))
   exact ⟨(), hle N C a w hs⟩
 · show some (Ch.obj (.pool (pset (pdel M b2) b1 (bzO s' g' es')))) = _
   rw [pset_pdel hne]
 · rw [pget_pset_ne (Ne.symm hne)]; exact h2
 · refine ⟨?_, trivial⟩
   show some (Ch.obj (.pool (pset (pset M b1 (bzO s' g' es')) b2 (bzO s2 g2 es2)))) = _
   rw [pset_self (by rw [pget_pset_ne (Ne.symm hne)]; exact h2)]
theorem bzmergeS {s g s' g' : Int} {es es' : List (El uI × El uI)} {M : List (Nat × Ob)} {b1 : Nat} {r : Int} (h : Fn Tryz.prog 246 [vP 1001, vP 1001] (bzmergesB s g es) [] (vI r) (bzmergesB s' g' es'))
   (h1 : pget M b1 = some (bzO s g es)) : Fn Tryz.prog 246 [vAd b1, vAd b1] [(1004, .obj (.pool M))] [] (vI r) [(1004, .obj (.pool (pset M b1 (bzO s' g' es'))))] := by
 have c1 : Fn Tryz.prog 246 [vP 1001, vP 1001] [(1001, .obj (bzO s g es))] [] (vI r) [(1001, .obj (bzO s' g' es'))] :=
   Fn.close (Bl := bzB s g es) (Bl' := bzB s' g' es') (Bi := []) (Bo := []) [1002] h (fun _ _ _ _ h => h) (fun _ _ _ _ h => h) rfl rfl
 have c2 := Fn.atB (b := b1) c1 rfl
 refine Fn.via (X := Unit) (args' := fun _ => [vP 1001, vP 1001]) (B1 := fun _ => [(1001, .obj ((bzO s g es).at b1)), (1004, .obj (.pool (pdel M b1)))]) (Bi' := fun _ => [(1001, .obj ((bzO s g es).at b1))]) (nw' := fun _ => []) (res' := fun _ => vI r) (Bo' := fun _ => [(1001, .obj ((bzO s' g' es').at b1))]) c2.1 2 rfl ?_ (fun _ => c2) (fun _ => ⟨rfl, trivial⟩) (fun _ => rfl) (fun _ => rfl) (fun _ => ⟨vI r, [(1004, .obj (.pool (pset M b1 (bzO s' g' es'))))], Le.trans (Le.putAt (o := bzO s g es) (L := M) 1004 1001 b1 rfl rfl h1 (by decide)) (Le.sub ⟨rfl, trivial⟩ ⟨rfl, trivial⟩), rfl, ⟨rfl, trivial⟩, rfl⟩)
 rintro N C a w hs
 have hle : Le (keysB [(1004, .obj (.pool M))]) (argsK 0 [vAd b1, vAd b1]) [(1004, .obj (.pool M))] (argsK 0 [vP 1001, vP 1001]) [(1001, .obj ((bzO s g es).at b1)), (1004, .obj (.pool (pdel M b1)))] :=
   Le.trans (Le.takeOut 1004 1001 b1 rfl h1 rfl) (Le.trans (Le.ofAt 0 1001 b1 rfl rfl) (Le.trans (Le.ofAt 1 1001 b1 rfl rfl) (Le.sub ⟨rfl, rfl, trivial⟩ ⟨rfl, rfl, trivial⟩)))
 exact ⟨(), hle N C a w hs⟩
/-! ### Merge -/
def mgU (us : Bool) (es : List (El uI × El uI)) (x : DEn) : DEn := { x with us := us, es := es }
/-- What is merged, and the code. -/
def mgE (l : List DEn) (to fr : List UInt8) : List DEn × Int := match ek l to, ek l fr with
 | some a, some b => if b.s = a.s then (eupd l a.ad (mgU (a.us && b.us) (bzMg a.s a.g a.es (bzRow b.s b.g b.es))), 0) else (l, 1)
 | _, _ => (l, 112)
theorem DOK.mg {l : List DEn} (h : DOK l) (to fr : List UInt8) : DOK (mgE l to fr).1 := by
 unfold mgE
 split
 · rename_i a b ha hb
   split
   · exact h.upd (u := mgU (a.us && b.us) (bzMg a.s a.g a.es (bzRow b.s b.g b.es))) (fun _ => ⟨rfl, rfl, rfl⟩) fun e he e2 => by
       have := nodup_inj h.ads he (ek_get ha).1 e2
       subst this
       obtain ⟨k1, k2, k3, k4⟩ := h.ok e he
       exact ⟨k1, k2, mgN_nd k3 _ _⟩
   · exact h
 · exact h
theorem dmerge_no {l : List DEn} (to fr : List UInt8) (h0 : ek l to = none ∨ ek l fr = none) : Fn Tryz.prog 169 [vP 1001, vS to, vS fr] (dirB l) [] (vI 112) (dirB l) := by
 refine Fn.of tblOK [] _ _ _ _ _ Tryz.func169 rfl rfl (by kernel_rfl) (by kernel_rfl) rfl (drawOK tblOK) rfl ?_
 refine ⟨indep_of (by kernel_rfl), ?_⟩
 refine ⟨fun b1 hb1 => ?_, fun hb1 => ?_⟩
 · refine ⟨fun b2 hb2 => ?_, fun hb2 => ?_⟩
   · exfalso
     have hb1 : (mget (ku := .str) (vu := .adr) (dE l) to).getD (dflt .adr) = some b1 := hb1
     have hb2 : (mget (ku := .str) (vu := .adr) (dE l) fr).getD (dflt .adr) = some b2 := hb2
     rcases h0 with h0 | h0
     · rw [eg_none h0] at hb1; cases hb1
     · rw [eg_none h0] at hb2; cases hb2
   · exact ⟨_, _, _, Le.refl _ _, rfl, rfl, ⟨rfl, rfl, rfl, rfl, trivial⟩, rfl⟩
 · exact ⟨_, _, _, Le.refl _ _, rfl, rfl, ⟨rfl, rfl, rfl, rfl, trivial⟩, rfl⟩
set_option maxHeartbeats 1000000 in
theorem dmerge_of {l : List DEn} (h : DOK l) (to fr : List UInt8) {a b : DEn} (ha : ek l to = some a) (hb : ek l fr = some b) {M' : List (Nat × Ob)} {r : Int}
   (hc : Fn Tryz.prog 246 [vAd a.ab, vAd b.ab] [(1004, .obj (.pool (dM l)))] [] (vI r) [(1004, .obj (.pool M'))]) (l' : List DEn) (hl : dE l = dE l') (hM : M' = dM l') (hD : (if r = 0 then pset (dD l) a.ad (enO a.nm a.on (a.us && b.us) a.ab) else dD l) = dD l') :
   Fn Tryz.prog 169 [vP 1001, vS to, vS fr] (dirB l) [] (vI r) (dirB l') := by
 obtain ⟨ia, ia1, ia2⟩ := inf_of infBool
 obtain ⟨ib, ib1, ib2⟩ := inf_of infBz
 have hDa := h.D (ek_get ha).1
 have hDb := h.D (ek_get hb).1
 have ea := eg_some ha
 have eb := eg_some hb
 subst hM
 refine Fn.of tblOK [] _ _ _ _ _ Tryz.func169 rfl rfl (by kernel_rfl) (by kernel_rfl) rfl (drawOK tblOK) rfl ?_
 refine ⟨indep_of (by kernel_rfl), ?_⟩
 refine ⟨fun b1 hb1 => ?_, fun hb1 => absurd (show (mget (ku := .str) (vu := .adr) (dE l) to).getD (dflt .adr) = none from hb1) (by rw [ea]; intro h; cases h)⟩
 refine ⟨fun b2 hb2 => ?_, fun hb2 => absurd (show (mget (ku := .str) (vu := .adr) (dE l) fr).getD (dflt .adr) = none from hb2) (by rw [eb]; intro h; cases h)⟩
 refine ⟨_, _, fun N => opOK_nilAdr (b := a.ad) rfl (by exact adrV_eq ea) N, rfl, ?_⟩
 refine ⟨_, _, fun N => opOK_fieldAdr rfl Tryz.underlying276 rfl rfl ib1 (by rw [ib2]; decide) rfl N, rfl, ?_⟩
 refine ⟨_, _, fun N => opOK_loadRaw (q := 1003) rfl Tryz.underlying135 rfl rfl rfl hDa rfl N, rfl, ?_⟩
 refine ⟨_, _, fun N => opOK_nilAdr (b := b.ad) rfl (by exact adrV_eq eb) N, rfl, ?_⟩
 refine ⟨_, _, fun N => opOK_fieldAdr rfl Tryz.underlying276 rfl rfl ib1 (by rw [ib2]; decide) rfl N, rfl, ?_⟩
 refine ⟨_, _, fun N => opOK_loadRaw (q := 1003) rfl Tryz.underlying135 rfl rfl rfl hDb rfl N, rfl, ?_⟩
 refine ⟨_, _, _, _, hc, ⟨rfl, trivial⟩, rfl, ?_⟩
 refine ⟨indep_of (by kernel_rfl), ?_⟩
 refine ⟨fun hr => ?_, fun hr => ?_⟩
 · have hr : r = 0 := of_decide_eq_true hr
   rw [if_pos hr] at hD
   refine ⟨_, _, fun N => opOK_nilAdr (b := a.ad) rfl (by exact adrV_eq ea) N, rfl, ?_⟩
   refine ⟨_, _, fun N => opOK_fieldAdr rfl Tryz.underlying276 rfl rfl ia1 (by rw [ia2]; decide) rfl N, rfl, ?_⟩
   refine ⟨_, _, fun N => opOK_loadRaw (q := 1003) rfl Tryz.underlying4 rfl rfl rfl hDa rfl N, rfl, ?_⟩
   refine ⟨fun hu => ?_, fun hu => ?_⟩
   · have hu : a.us = true := hu
     refine ⟨_, _, fun N => opOK_nilAdr (b := b.ad) rfl (by exact adrV_eq eb) N, rfl, ?_⟩
     refine ⟨_, _, fun N => opOK_fieldAdr rfl Tryz.underlying276 rfl rfl ia1 (by rw [ia2]; decide) rfl N, rfl, ?_⟩
     refine ⟨_, _, fun N => opOK_loadRaw (q := 1003) rfl Tryz.underlying4 rfl rfl rfl hDb rfl N, rfl, ?_⟩
     refine ⟨_, _, fun N => opOK_nilAdr (b := a.ad) rfl (by exact adrV_eq ea) N, rfl, ?_⟩
     refine ⟨_, _, fun N => opOK_fieldAdr rfl Tryz.underlying276 rfl rfl ia1 (by rw [ia2]; decide) rfl N, rfl, ?_⟩
     refine ⟨_, _, fun N => opOK_storeRaw (q := 1003) (b := a.ad) (j := 2) (y := .bool b.us) (l := enL a.nm a.on a.us a.ab) (h' := fun _ => rfl) rfl ia1 ia2 rfl rfl rfl hDa (show 2 < 4 by decide) boolCell N, rfl, ?_⟩
     rw [hu, Bool.true_and] at hD
     exact ⟨_, _, _, Le.refl _ _, rfl, rfl, ⟨rfl, congrArg (fun e => some (Ch.map .str .adr e)) hl, congrArg (fun e => some (Ch.obj (.pool e))) hD, rfl, trivial⟩, rfl⟩
   · have hu : a.us = false := hu
     refine ⟨_, _, fun N => opOK_nilAdr (b := a.ad) rfl (by exact adrV_eq ea) N, rfl, ?_⟩
     refine ⟨_, _, fun N => opOK_fieldAdr rfl Tryz.underlying276 rfl rfl ia1 (by rw [ia2]; decide) rfl N, rfl, ?_⟩
     refine ⟨_, _, fun N => opOK_storeRaw (q := 1003) (b := a.ad) (j := 2) (y := .lit false) (l := enL a.nm a.on a.us a.ab) (h' := fun _ => rfl) rfl ia1 ia2 rfl rfl rfl hDa (show 2 < 4 by decide) litCell N, rfl, ?_⟩
     rw [hu, Bool.false_and] at hD
     exact ⟨_, _, _, Le.refl _ _, rfl, rfl, ⟨rfl, congrArg (fun e => some (Ch.map .str .adr e)) hl, congrArg (fun e => some (Ch.obj (.pool e))) hD, rfl, trivial⟩, rfl⟩
 · have hr : ¬ r = 0 := of_decide_eq_false hr
   rw [if_neg hr] at hD
   exact ⟨_, _, _, Le.refl _ _, rfl, rfl, ⟨rfl, congrArg (fun e => some (Ch.map .str .adr e)) hl, congrArg (fun e => some (Ch.obj (.pool e))) hD, rfl, trivial⟩, rfl⟩
theorem dmerge_fn {l : List DEn} (h : DOK l) (to fr : List UInt8) : Fn Tryz.prog 169 [vP 1001, vS to, vS fr] (dirB l) [] (vI (mgE l to fr).2) (dirB (mgE l to fr).1) := by
 unfold mgE
 cases ha : ek l to with
 | none => exact dmerge_no to fr (.inl ha)
 | some a =>
   cases hb : ek l fr with
   | none => exact dmerge_no to fr (.inr hb)
   | some b =>
     obtain ⟨ka1, ka2, ka3, _⟩ := h.ok a (ek_get ha).1
     obtain ⟨kb1, kb2, kb3, _⟩ := h.ok b (ek_get hb).1
     have hMa := h.M (ek_get ha).1
     have hMb := h.M (ek_get hb).1
     by_cases hs : b.s = a.s
     · simp only [if_pos hs]
       have eM := eupd_M h (ek_get ha).1 (u := mgU (a.us && b.us) (bzMg a.s a.g a.es (bzRow b.s b.g b.es))) rfl
       have eD := eupd_D h (ek_get ha).1 (u := mgU (a.us && b.us) (bzMg a.s a.g a.es (bzRow b.s b.g b.es))) rfl
       refine dmerge_of h to fr ha hb (M' := pset (dM l) a.ab (bzO a.s a.g (bzMg a.s a.g a.es (bzRow b.s b.g b.es)))) ?_ _ (eupd_E (u := mgU (a.us && b.us) (bzMg a.s a.g a.es (bzRow b.s b.g b.es))) (fun _ => rfl) (fun _ => rfl)).symm eM (by rw [if_pos rfl]; exact eD)
       by_cases hab : a.ab = b.ab
       · have := nodup_inj h.abs (ek_get ha).1 (ek_get hb).1 hab
         subst this
         exact bzmergeS (bzmerges_ok a.s a.g a.es ka1 ka2) hMa
       · exact bzmergeP (bzmerge_ok a.s a.g a.es b.s b.g b.es ka1 ka2 kb1 kb2 hs) hMa hMb hab
     · simp only [if_neg hs]
       have hab : a.ab ≠ b.ab := fun e => hs (by rw [nodup_inj h.abs (ek_get ha).1 (ek_get hb).1 e])
       have hc := bzmergeP (bzmerge_no a.s a.g a.es b.s b.g b.es hs) hMa hMb hab
       rw [pset_self hMa] at hc
       exact dmerge_of h to fr ha hb hc l rfl rfl (by rw [if_neg (by decide)])
end Go.Proofs.YtojaemgabaehdaaGreat
