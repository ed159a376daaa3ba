/-
  Maps of numbers: their keys, sorted.
-/
import Derived.Test.YtbcngglcaeehbaaGreatKi
import Derived.Test.YtbcngglcaeehbaaGreatAd
import Derived.Test.YtbcngglcaeehbaaGreatIb
import Derived.Test.YtbcngglcaeehbaaGreatLz
set_option linter.unusedVariables false
set_option linter.unusedSimpArgs false
set_option maxRecDepth 10000
namespace Go.Proofs.YtbcngglcaeehbaaGreat
open Go.RowKit Go.Proofs Go.Maps Go.Shelf Go.MapKept
open Go.WideElems (Fit rd rg pl rd_val rd_key rg_of)

@[reducible] def uGo : U := .sl .u8
def leZ : Int → Int → Bool := fun x y => decide (x ≤ y)
def sortI (l : List Int) : List Int := l.mergeSort leZ
theorem sortI_perm (l : List Int) : (sortI l).Perm l := List.mergeSort_perm l leZ
theorem sortsInI (m : Nat) : AnyZI.SortsIn Tryz.prog Tryz.sorted40_ren Fence.wide m :=
  ⟨fun blk off cap ss W hH hblk hsz => callsIn_wide.2 (AnyM.slices_Sort_int Tryz.sort76 blk off cap ss W hH hblk hsz),
   fun p cap W => callsIn_wide.2 (AnyM.slices_Sort_int_none Tryz.sort76 p cap W)⟩
theorem mapsKeysG_fn (es : List (El uI × El uGo)) : Fn Tryz.prog 48 [.c (.one (.mp 1001))] [(1001, .map uI uGo es)] [2001] (.c (.one (.clo 85 [.p 2001 0]))) [(2001, .cells [.mp 1001]), (1001, .map uI uGo es)] := by
  refine Fn.of tblOK [] _ _ _ _ _ Tryz.func48 rfl rfl (by kernel_rfl) (by kernel_rfl) rfl (drawOK tblOK) rfl ?_
  refine ⟨rfl, ?_⟩
  exact ⟨_, _, _, Le.ren 1 2001 rfl, rfl, rfl, ⟨rfl, rfl, trivial⟩, rfl⟩
theorem sortedI_fn (es : List (El uI × El uI)) (hn : (mkeysI es).Nodup) (hl : ∀ s ∈ mkeysI es, (Lit.int .i64 s).wf = true) (hs : es.length ≤ 4294967296) :
    Fn Tryz.prog 40 [.c (.one (.clo 77 [.p 2001 0]))] [(2001, .cells [.mp 1001]), (1001, .map uI uI es)] [] (vL uI (sortI (mkeysI es))) [(2001, .cells [.mp 1001]), (1001, .map uI uI es)] := by
  refine ⟨by kernel_rfl, fun ρ F I w vals hI hH hF hdj hlen hden => ?_⟩
  match vals, hlen with
  | [v], _ =>
    obtain ⟨vs, hv, w0, r, hvs, hw0, hr⟩ := hden 0 _ v rfl rfl
    have hr : r = [] := hr
    have hw0 : w0 = .pointer (some ⟨(ρ 2001).blk, 0, none⟩) := hw0
    subst hr hw0 hvs hv
    obtain ⟨_, vs, T, hb1, hvs⟩ := hH 2001 _ rfl
    obtain ⟨x, r, hvs, hx, hr⟩ := hvs
    have hr : r = [] := hr
    have hx : x = .map (some (ρ 1001).blk) := hx
    subst hr hx hvs
    obtain ⟨_, ents, clock, hb2, hm, hB⟩ := hH 1001 _ rfl
    have hmaxl : (4294967296 : Nat) ≤ maxLen := by decide
    obtain ⟨D0, hown, hsz, hperm⟩ := owns_of_mapI (P := Tryz.prog) (k := 3) (by kernel_rfl) hb2 hm hB hn hl (by omega)
    have hlt : (ρ 2001).blk < w.heap.size := lt_of_heap hb1
    have hseq : SeqGives Fence.wide 2 Tryz.prog 77 #[.pointer (some ⟨(ρ 2001).blk, 0, none⟩)] encZ (fun ss => ss.Perm (intKeys D0)) (Maps.size D0) w :=
      AnyZI.keys_gives (ρ := Tryz.keys41_ren) { Tryz.keys41 with } Fence.wide _ trivial rfl (by omega) (ρ 2001).blk (ρ 1001).blk es.length D0 w hlt (cell_of hb1 rfl) hown
    have hc := AnyZI.sorted_in Tryz.sorted40 Fence.wide 5 trivial trivial trivial trivial rfl (by omega) (sortsInI _) (enters_of Tryz.func76 (by kernel_rfl) rfl) 77 #[.pointer (some ⟨(ρ 2001).blk, 0, none⟩)] trivial (enters_of Tryz.func77 (by kernel_rfl) rfl) _ _ (by rw [hsz]; omega) (by rw [hsz]; omega) _ hseq
    refine (callsIn_wide.1 hc).mono ?_
    rintro e w' ⟨v, ss, rfl, hS, hrow, hnil, hbel⟩
    have hE : Ext I w (fun b => b < w'.heap.size ∧ (I b ∨ w.heap.size ≤ b)) w' := fun b hbI => ⟨⟨Nat.lt_of_lt_of_le (hI b hbI) hbel.size, .inl hbI⟩, hbel.block b (hI b hbI)⟩
    refine ⟨v, ρ, F, rfl, Fr.of_below hbel, fun _ _ => rfl, _, hE, fun b h => ⟨h.1, h.2.imp id .inr⟩, fun c ch hc => Holds.stable hE (fun b hb => hbel.block b (hF c ch hc b hb).1) hbel.size ch (fun _ _ => rfl) (hH c ch hc), fun c ch hc b hb => ?_, fun c c' ch ch' b h1 h2 => hdj c c' ch ch' b h1 h2, ?_⟩
    · have := hF c ch hc b hb
      exact ⟨Nat.lt_of_lt_of_le this.1 hbel.size, fun h => (by rcases h.2 with h | h; exact this.2 h; omega), .inl ⟨c, ch, hc, hb⟩⟩
    · have hk : ss.mergeSort (fun x y => decide (x ≤ y)) = sortI (mkeysI es) := Go.mergeSort_of_perm_i (hS.trans hperm)
      rw [hk] at hrow
      have hsl := Sl.of_own hrow
      have hln : ss.length = (sortI (mkeysI es)).length := by rw [← hk, List.length_mergeSort]
      rw [hln] at hsl
      exact (hsl.weaken fun i _ hi => (hrow.lt i hi).1).denInt fun b h1 h2 => ⟨h1, .inr h2⟩
theorem sortedG_fn (es : List (El uI × El uGo)) (hn : (mkeysI es).Nodup) (hl : ∀ s ∈ mkeysI es, (Lit.int .i64 s).wf = true) (hs : es.length ≤ 4294967296) :
    Fn Tryz.prog 40 [.c (.one (.clo 85 [.p 2001 0]))] [(2001, .cells [.mp 1001]), (1001, .map uI uGo es)] [] (vL uI (sortI (mkeysI es))) [(2001, .cells [.mp 1001]), (1001, .map uI uGo es)] := by
  refine ⟨by kernel_rfl, fun ρ F I w vals hI hH hF hdj hlen hden => ?_⟩
  match vals, hlen with
  | [v], _ =>
    obtain ⟨vs, hv, w0, r, hvs, hw0, hr⟩ := hden 0 _ v rfl rfl
    have hr : r = [] := hr
    have hw0 : w0 = .pointer (some ⟨(ρ 2001).blk, 0, none⟩) := hw0
    subst hr hw0 hvs hv
    obtain ⟨_, vs, T, hb1, hvs⟩ := hH 2001 _ rfl
    obtain ⟨x, r, hvs, hx, hr⟩ := hvs
    have hr : r = [] := hr
    have hx : x = .map (some (ρ 1001).blk) := hx
    subst hr hx hvs
    obtain ⟨_, ents, clock, hb2, hm, hB⟩ := hH 1001 _ rfl
    have hmaxl : (4294967296 : Nat) ≤ maxLen := by decide
    obtain ⟨D0, hown, hsz, hperm⟩ := owns_of_mapI (P := Tryz.prog) (k := 3) (by kernel_rfl) hb2 hm hB hn hl (by omega)
    have hlt : (ρ 2001).blk < w.heap.size := lt_of_heap hb1
    have hseq : SeqGives Fence.wide 2 Tryz.prog 85 #[.pointer (some ⟨(ρ 2001).blk, 0, none⟩)] encZ (fun ss => ss.Perm (intKeys D0)) (Maps.size D0) w :=
      AnyZI.keys_gives (ρ := Tryz.keys48_ren) { Tryz.keys48 with } Fence.wide _ trivial rfl (by omega) (ρ 2001).blk (ρ 1001).blk es.length D0 w hlt (cell_of hb1 rfl) hown
    have hc := AnyZI.sorted_in Tryz.sorted40 Fence.wide 5 trivial trivial trivial trivial rfl (by omega) (sortsInI _) (enters_of Tryz.func76 (by kernel_rfl) rfl) 85 #[.pointer (some ⟨(ρ 2001).blk, 0, none⟩)] trivial (enters_of Tryz.func85 (by kernel_rfl) rfl) _ _ (by rw [hsz]; omega) (by rw [hsz]; omega) _ hseq
    refine (callsIn_wide.1 hc).mono ?_
    rintro e w' ⟨v, ss, rfl, hS, hrow, hnil, hbel⟩
    have hE : Ext I w (fun b => b < w'.heap.size ∧ (I b ∨ w.heap.size ≤ b)) w' := fun b hbI => ⟨⟨Nat.lt_of_lt_of_le (hI b hbI) hbel.size, .inl hbI⟩, hbel.block b (hI b hbI)⟩
    refine ⟨v, ρ, F, rfl, Fr.of_below hbel, fun _ _ => rfl, _, hE, fun b h => ⟨h.1, h.2.imp id .inr⟩, fun c ch hc => Holds.stable hE (fun b hb => hbel.block b (hF c ch hc b hb).1) hbel.size ch (fun _ _ => rfl) (hH c ch hc), fun c ch hc b hb => ?_, fun c c' ch ch' b h1 h2 => hdj c c' ch ch' b h1 h2, ?_⟩
    · have := hF c ch hc b hb
      exact ⟨Nat.lt_of_lt_of_le this.1 hbel.size, fun h => (by rcases h.2 with h | h; exact this.2 h; omega), .inl ⟨c, ch, hc, hb⟩⟩
    · have hk : ss.mergeSort (fun x y => decide (x ≤ y)) = sortI (mkeysI es) := Go.mergeSort_of_perm_i (hS.trans hperm)
      rw [hk] at hrow
      have hsl := Sl.of_own hrow
      have hln : ss.length = (sortI (mkeysI es)).length := by rw [← hk, List.length_mergeSort]
      rw [hln] at hsl
      exact (hsl.weaken fun i _ hi => (hrow.lt i hi).1).denInt fun b h1 h2 => ⟨h1, .inr h2⟩
/-! Bitmaps: bits.New, Set, Is, Sectors. -/
section
variable {P : Program} {ids : List Nat} {K : KL} {B : BL}
/-- Sums and quotients that may wrap. -/
theorem opOK_arW {o : Oper} {op : BinOp} {T T2 : TypeId} {x y : Operand} {n m r : Int} (ho : o.op = .binOp op T x y T2) (hx : opv K x = .c (.one (.d (.int .i64 n)))) (hy : opv K y = .c (.one (.d (.int .i64 m))))
    (h : (op = .add ∧ r = IntKind.i64.wrap (n + m)) ∨ (op = .sub ∧ r = IntKind.i64.wrap (n - m)) ∨ (op = .quo ∧ m ≠ 0 ∧ r = IntKind.i64.wrap (n.tdiv m))) (N : Nat) : OpOK P N ids o K B (.c (.one (.d (.int .i64 r)))) ⟨[], [], []⟩ := by
  have m1 : x ∈ o.op.operands := by rw [ho]; simp [Op.operands]
  have m2 : y ∈ o.op.operands := by rw [ho]; simp [Op.operands]
  refine OpOK.val fun K' B' g1 g2 C ρ F ac w hM hS => ?_
  have e1 := hS.int ((g1 x m1).trans hx)
  have e2 := hS.int ((g1 y m2).trans hy)
  refine ⟨.int .i64 r, ?_, rfl⟩
  simp only [execOp, ho, e1, e2]
  rcases h with ⟨rfl, rfl⟩ | ⟨rfl, rfl⟩ | ⟨rfl, hm, rfl⟩
  · simp [eqGuard, go_sem, Op.intArith]
  · simp [eqGuard, go_sem, Op.intArith]
  · simp [eqGuard, go_sem, Op.intDiv, hm]
end
@[reducible] def bzC (s g : Int) : List S1 := [.d (.int .i64 s), .d (.int .i64 g), .mp 1002]
@[reducible] def bzB (s g : Int) (es : List (El uI × El uI)) : BL := [(1001, .cells (bzC s g)), (1002, .map uI uI es)]
theorem bzright_fn (s : Int) : Fn Tryz.prog 100 [vI s] [] [] (vB (decide (0 ≤ s) && decide (s ≤ 4096))) [] := by
  refine Fn.of tblOK [] _ _ _ _ _ Tryz.func100 rfl rfl (by kernel_rfl) (by kernel_rfl) rfl (drawOK tblOK) rfl ?_
  refine ⟨fun h1 => ?_, fun h1 => ?_⟩
  · have h1 : decide (0 ≤ s) = true := h1
    exact ⟨_, _, _, Le.refl _ _, rfl, (show decide (s ≤ 4096) = (decide (0 ≤ s) && decide (s ≤ 4096)) by rw [h1]; rfl), trivial, rfl⟩
  · have h1 : decide (0 ≤ s) = false := h1
    exact ⟨_, _, _, Le.refl _ _, rfl, (show false = (decide (0 ≤ s) && decide (s ≤ 4096)) by rw [h1]; rfl), trivial, rfl⟩
def bzOK (s g : Int) : Bool := ((decide (0 ≤ s) && decide (s ≤ 4096)) && (!decide (g < 1) && !decide (64 < g))) && decide (((g.toNat &&& (g - 1).toNat : Nat) : Int) = 0)
theorem bzOK_get {s g : Int} (h : bzOK s g = true) : (0 ≤ s ∧ s ≤ 4096) ∧ 1 ≤ g ∧ g ≤ 64 := by
  unfold bzOK at h
  simp only [Bool.and_eq_true, Bool.not_eq_true', decide_eq_true_eq, decide_eq_false_iff_not] at h
  obtain ⟨⟨⟨h1, h2⟩, h3, h4⟩, _⟩ := h
  omega
theorem bznew_ok (s g : Int) (h : bzOK s g = true) : Fn Tryz.prog 72 [vI s, vI g] [] [2001, 2002] (.tup [.one (.ptr 2001 0), vErr 0]) [(2001, .cells [.d (.int .i64 s), .d (.int .i64 g), .mp 2002]), (2002, .map uI uI [])] := by
  obtain ⟨g1, g2, g3⟩ := bzOK_get h
  have hr := bzright_fn s
  rw [decide_eq_true g1.1, decide_eq_true g1.2] at hr
  unfold bzOK at h
  simp only [Bool.and_eq_true] at h
  have h5 := h.2
  have m1 : (-9223372036854775808 : Int) ≤ g - 1 ∧ g - 1 ≤ 9223372036854775807 := by omega
  refine Fn.of tblOK [] _ _ _ _ _ Tryz.func72 rfl rfl (by kernel_rfl) (by kernel_rfl) rfl (drawOK tblOK) rfl ?_
  refine ⟨_, _, _, _, hr, trivial, rfl, ?_⟩
  refine ⟨fun h => absurd h (by decide), fun _ => ?_⟩
  refine ⟨fun h => absurd (of_decide_eq_true h) (by omega), fun _ => ?_⟩
  refine ⟨fun h => absurd (of_decide_eq_true h) (by omega), fun _ => ?_⟩
  refine ⟨m1, ?_⟩
  refine ⟨_, _, fun N => opOK_and rfl rfl rfl (by omega) (by omega) (by omega) (by omega) N, rfl, ?_⟩
  refine ⟨fun h => ?_, fun _ => ?_⟩
  · exfalso
    have h : (!decide (((g.toNat &&& (g - 1).toNat : Nat) : Int) = 0)) = true := h
    rw [h5] at h
    cases h
  refine ⟨rfl, rfl, ?_⟩
  exact ⟨_, _, _, Le.trans (Le.ren 28 2001 rfl) (Le.ren 26 2002 rfl), rfl, ⟨rfl, rfl, trivial⟩, ⟨rfl, rfl, trivial⟩, rfl⟩
theorem bznew_no (s g : Int) (h : bzOK s g = false) : Fn Tryz.prog 72 [vI s, vI g] [] [] (.tup [vNilP, vErr 1]) [] := by
  have hr := bzright_fn s
  unfold bzOK at h
  generalize (decide (0 ≤ s) && decide (s ≤ 4096)) = b at *
  refine Fn.of tblOK [] _ _ _ _ _ Tryz.func72 rfl rfl (by kernel_rfl) (by kernel_rfl) rfl (drawOK tblOK) rfl ?_
  refine ⟨_, _, _, _, hr, trivial, rfl, ?_⟩
  refine ⟨fun _ => ?_, fun h1 => ?_⟩
  · exact ⟨_, _, _, Le.refl _ _, rfl, ⟨rfl, rfl, trivial⟩, trivial, rfl⟩
  have h1 : b = true := by
    have h1 : (!b) = false := h1
    simpa using h1
  refine ⟨fun _ => ?_, fun h2 => ?_⟩
  · exact ⟨_, _, _, Le.refl _ _, rfl, ⟨rfl, rfl, trivial⟩, trivial, rfl⟩
  refine ⟨fun _ => ?_, fun h3 => ?_⟩
  · exact ⟨_, _, _, Le.refl _ _, rfl, ⟨rfl, rfl, trivial⟩, trivial, rfl⟩
  have h2 : decide (g < 1) = false := h2
  have h3 : decide (64 < g) = false := h3
  rw [h1, h2, h3] at h
  have q2 := of_decide_eq_false h2
  have q3 := of_decide_eq_false h3
  have m1 : (-9223372036854775808 : Int) ≤ g - 1 ∧ g - 1 ≤ 9223372036854775807 := by omega
  refine ⟨m1, ?_⟩
  refine ⟨_, _, fun N => opOK_and rfl rfl rfl (by omega) (by omega) (by omega) (by omega) N, rfl, ?_⟩
  refine ⟨fun _ => ?_, fun h4 => ?_⟩
  · exact ⟨_, _, _, Le.refl _ _, rfl, ⟨rfl, rfl, trivial⟩, trivial, rfl⟩
  · exfalso
    have h4 : (!decide (((g.toNat &&& (g - 1).toNat : Nat) : Int) = 0)) = false := h4
    have h : ((true && (!false && !false)) && decide (((g.toNat &&& (g - 1).toNat : Nat) : Int) = 0)) = false := h
    generalize decide (((g.toNat &&& (g - 1).toNat : Nat) : Int) = 0) = c at *
    cases c
    · cases h4
    · cases h
theorem bzsec_fn (s g : Int) (es : List (El uI × El uI)) : Fn Tryz.prog 70 [vP 1001] (bzB s g es) [] (vI s) (bzB s g es) := by
  refine Fn.of tblOK [] _ _ _ _ _ Tryz.func70 rfl rfl (by kernel_rfl) (by kernel_rfl) rfl (drawOK tblOK) rfl ?_
  exact ⟨_, _, _, Le.refl _ _, rfl, rfl, ⟨rfl, rfl, trivial⟩, rfl⟩
def pos0 (z : Int) : Bool := decide (0 < z)
def bzIs (g : Int) (es : List (El uI × El uI)) (k : Nat) : Bool := pos0 ((mget (ku := uI) (vu := uI) es ((k : Int) / g)).getD (dflt uI))
theorem bzis_fn (s g : Int) (es : List (El uI × El uI)) (k : Nat) (hg : 1 ≤ g) (hk : (k : Int) < s) (hs : s ≤ 4096) : Fn Tryz.prog 71 [vP 1001, vI (k : Int)] (bzB s g es) [] (vB (bzIs g es k)) (bzB s g es) := by
  have hq : (0 : Int) ≤ (k : Int) / g := Int.ediv_nonneg (by omega) (by omega)
  have hq2 : (k : Int) / g ≤ (k : Int) := Int.ediv_le_self _ (by omega)
  have m1 : (-9223372036854775808 : Int) ≤ (k : Int) / g ∧ (k : Int) / g ≤ 9223372036854775807 := by omega
  refine Fn.of tblOK [] _ _ _ _ _ Tryz.func71 rfl rfl (by kernel_rfl) (by kernel_rfl) rfl (drawOK tblOK) rfl ?_
  refine ⟨fun _ => ?_, fun h => absurd (of_decide_eq_false h) (by omega)⟩
  refine ⟨fun _ => ?_, fun h => absurd (of_decide_eq_false h) (by omega)⟩
  refine ⟨⟨by omega, by omega⟩, m1, ?_⟩
  refine ⟨rfl, ?_⟩
  exact ⟨_, _, _, Le.refl _ _, rfl, rfl, ⟨rfl, rfl, trivial⟩, rfl⟩
/-! ### Set -/
def bzPut (es : List (El uI × El uI)) (f : Int) : Nat → List (El uI × El uI)
  | 0 => es
  | n + 1 => mput (ku := uI) (vu := uI) (bzPut es f n) (f + (n : Int)) (1 : Int)
@[reducible] def bzX (s g : Int) (es : List (El uI × El uI)) : BL := bzB s g es ++ [(3001, .cells [.ptr 1001 0])]
theorem bzset1_fn (s g : Int) (es : List (El uI × El uI)) (k : Int) : Fn Tryz.prog 102 [vI k, vP 3001] (bzX s g es) [] vU (bzX s g (mput (ku := uI) (vu := uI) es k (1 : Int))) := by
  refine Fn.of tblOK [] _ _ _ _ _ Tryz.func102 rfl rfl (by kernel_rfl) (by kernel_rfl) rfl (drawOK tblOK) rfl ?_
  refine ⟨trivial, ?_⟩
  exact ⟨_, _, _, Le.refl _ _, rfl, trivial, ⟨rfl, rfl, rfl, trivial⟩, rfl⟩
@[reducible] def beK (en k : Int) : KL := [(4, vI en), (5, .c (.one (.clo 102 [.p 3001 0]))), (13, vI k)]
theorem bzeach_ok (s g : Int) (es : List (El uI × El uI)) (fr lg fi en : Int) (h1 : 0 ≤ lg) (h2 : 0 ≤ fr) (h3 : lg ≤ s) (h4 : fr ≤ s - lg) (hs : s ≤ 4096) (h5 : 0 ≤ fi) (h6 : en ≤ 1000000) : Fn Tryz.prog 101 [vP 1001, vI fr, vI lg, vI fi, vI en, .c (.one (.clo 102 [.p 3001 0]))] (bzX s g es) [] (vI 0) (bzX s g (bzPut es fi (en - fi).toNat)) := by
  have m1 : (-9223372036854775808 : Int) ≤ s - lg ∧ s - lg ≤ 9223372036854775807 := by omega
  refine Fn.of tblOK [] _ _ _ _ _ Tryz.func101 rfl rfl (by kernel_rfl) (by kernel_rfl) rfl (drawOK tblOK) rfl ?_
  refine ⟨fun h => absurd (of_decide_eq_true h) (by omega), fun _ => ?_⟩
  refine ⟨fun h => absurd (of_decide_eq_true h) (by omega), fun _ => ?_⟩
  refine ⟨fun h => absurd (of_decide_eq_true h) (by omega), fun _ => ?_⟩
  refine ⟨m1, ?_⟩
  refine ⟨fun h => absurd (of_decide_eq_true h) (by omega), fun _ => ?_⟩
  show TrQ _ _ _ _ _ _ _
  refine TrQ.loop tblOK (drawOK tblOK) [6] (by kernel_rfl) (X := Nat) (fun j => beK en (fi + (j : Int))) (fun j => bzX s g (bzPut es fi j)) (fun j => j ≤ (en - fi).toNat) (fun j => (en - fi).toNat - j) 0 (Nat.zero_le _) ?_ ?_
  · exact Le.sub ⟨rfl, rfl, (show fi = fi + ((0 : Nat) : Int) by omega), trivial⟩ ⟨rfl, rfl, rfl, trivial⟩
  intro j hj
  have hj : j ≤ (en - fi).toNat := hj
  refine ⟨fun hc => ?_, fun hc => ?_⟩
  · have hc : decide (fi + (j : Int) < en) = true := hc
    have hc := of_decide_eq_true hc
    show TrQ _ _ _ _ _ _ _
    refine TrQ.go tblOK (drawOK tblOK) [] (by kernel_rfl) (Le.refl _ _) ?_
    refine ⟨_, _, _, _, bzset1_fn s g (bzPut es fi j) (fi + (j : Int)), ⟨rfl, rfl, rfl, trivial⟩, rfl, ?_⟩
    exact ⟨by omega, j + 1, by omega, by omega, Le.sub ⟨rfl, rfl, (show fi + (j : Int) + 1 = fi + ((j + 1 : Nat) : Int) by omega), trivial⟩ ⟨rfl, rfl, rfl, trivial⟩⟩
  · have hc : decide (fi + (j : Int) < en) = false := hc
    have hc := of_decide_eq_false hc
    have hj2 : j = (en - fi).toNat := by omega
    subst hj2
    exact ⟨_, _, _, Le.refl _ _, rfl, rfl, ⟨rfl, rfl, rfl, trivial⟩, rfl⟩
theorem bzeach_no (s g : Int) (es : List (El uI × El uI)) (fr lg fi en : Int) (h : ¬ (0 ≤ lg ∧ 0 ≤ fr ∧ lg ≤ s ∧ fr ≤ s - lg)) (hs : 0 ≤ s ∧ s ≤ 4096) : Fn Tryz.prog 101 [vP 1001, vI fr, vI lg, vI fi, vI en, .c (.one (.clo 102 [.p 3001 0]))] (bzX s g es) [] (vI 1) (bzX s g es) := by
  refine Fn.of tblOK [] _ _ _ _ _ Tryz.func101 rfl rfl (by kernel_rfl) (by kernel_rfl) rfl (drawOK tblOK) rfl ?_
  refine ⟨fun _ => ?_, fun q1 => ?_⟩
  · exact ⟨_, _, _, Le.refl _ _, rfl, rfl, ⟨rfl, rfl, rfl, trivial⟩, rfl⟩
  refine ⟨fun _ => ?_, fun q2 => ?_⟩
  · exact ⟨_, _, _, Le.refl _ _, rfl, rfl, ⟨rfl, rfl, rfl, trivial⟩, rfl⟩
  refine ⟨fun _ => ?_, fun q3 => ?_⟩
  · exact ⟨_, _, _, Le.refl _ _, rfl, rfl, ⟨rfl, rfl, rfl, trivial⟩, rfl⟩
  have q1 : ¬ lg < 0 := of_decide_eq_false q1
  have q2 : ¬ fr < 0 := of_decide_eq_false q2
  have q3 : ¬ s < lg := of_decide_eq_false q3
  have m1 : (-9223372036854775808 : Int) ≤ s - lg ∧ s - lg ≤ 9223372036854775807 := by omega
  refine ⟨m1, ?_⟩
  refine ⟨fun _ => ?_, fun q4 => ?_⟩
  · exact ⟨_, _, _, Le.refl _ _, rfl, rfl, ⟨rfl, rfl, rfl, trivial⟩, rfl⟩
  · exfalso
    have q4 : ¬ s - lg < fr := of_decide_eq_false q4
    exact h (by omega)
def bzV (s fr lg : Int) : Prop := 0 ≤ lg ∧ 0 ≤ fr ∧ lg ≤ s ∧ fr ≤ s - lg
instance (s fr lg : Int) : Decidable (bzV s fr lg) := by unfold bzV; infer_instance
def bzSet (s g : Int) (es : List (El uI × El uI)) (fr lg : Int) : List (El uI × El uI) := if bzV s fr lg then bzPut es (fr / g) ((if lg = 0 then 0 else (fr + lg + g - 1) / g) - fr / g).toNat else es
@[reducible] def bzK (fr lg en : Int) : KL := [(1, vI fr), (2, vI lg), (3, vP 3), (7, vI en)]
@[reducible] def bz3 (s g : Int) (es : List (El uI × El uI)) : BL := bzB s g es ++ [(3, .cells [.ptr 1001 0])]
theorem bzset_fn (s g : Int) (es : List (El uI × El uI)) (fr lg : Int) (hs : 0 ≤ s ∧ s ≤ 4096) (hg : 1 ≤ g ∧ g ≤ 64) : Fn Tryz.prog 74 [vP 1001, vI fr, vI lg] (bzB s g es) [] (vI (if bzV s fr lg then 0 else 1)) (bzB s g (bzSet s g es fr lg)) := by
  by_cases hv : bzV s fr lg
  · have e0 : bzSet s g es fr lg = bzPut es (fr / g) ((if lg = 0 then 0 else (fr + lg + g - 1) / g) - fr / g).toNat := if_pos hv
    rw [e0, if_pos hv]
    obtain ⟨v1, v2, v3, v4⟩ := hv
    have p1 : (0 : Int) ≤ fr / g := Int.ediv_nonneg (by omega) (by omega)
    have p2 : fr / g ≤ fr := Int.ediv_le_self _ (by omega)
    have p3 : (0 : Int) ≤ (fr + lg + g - 1) / g := Int.ediv_nonneg (by omega) (by omega)
    have p4 : (fr + lg + g - 1) / g ≤ fr + lg + g - 1 := Int.ediv_le_self _ (by omega)
    have n1 : (-9223372036854775808 : Int) ≤ fr + lg ∧ fr + lg ≤ 9223372036854775807 := by omega
    have n2 : (-9223372036854775808 : Int) ≤ fr + lg + g ∧ fr + lg + g ≤ 9223372036854775807 := by omega
    have n3 : (-9223372036854775808 : Int) ≤ fr + lg + g - 1 ∧ fr + lg + g - 1 ≤ 9223372036854775807 := by omega
    have n4 : (-9223372036854775808 : Int) ≤ (fr + lg + g - 1) / g ∧ (fr + lg + g - 1) / g ≤ 9223372036854775807 := by omega
    have n5 : (-9223372036854775808 : Int) ≤ fr / g ∧ fr / g ≤ 9223372036854775807 := by omega
    have n6 : (0 : Int) ≤ fr + lg + g - 1 ∧ 0 < g := by omega
    have n7 : (0 : Int) ≤ fr ∧ 0 < g := by omega
    have he := fun en (h : en ≤ 1000000) => bzeach_ok s g es fr lg (fr / g) en v1 v2 v3 v4 hs.2 p1 h
    have he1 := he _ (show (fr + lg + g - 1) / g ≤ 1000000 by omega)
    have he2 := he 0 (by decide)
    generalize hq1 : (fr + lg + g - 1) / g = en at *
    generalize hq2 : fr / g = fi at *
    refine Fn.of tblOK [4] _ _ _ _ _ Tryz.func74 rfl rfl (by kernel_rfl) (by kernel_rfl) rfl (drawOK tblOK) rfl ?_
    refine ⟨rfl, ?_⟩
    refine ⟨n1, n2, n3, n6, by rw [hq1]; exact n4, ?_⟩
    refine ⟨rfl, ?_⟩
    refine ⟨fun hl => ?_, fun hl => ?_⟩
    · have hl : lg = 0 := of_decide_eq_true hl
      rw [if_pos hl]
      show TrQ _ _ _ _ _ _ _
      refine TrQ.go tblOK (drawOK tblOK) [] (by kernel_rfl) (Le.sub (K' := bzK fr lg 0) (B' := bz3 s g es) ⟨rfl, rfl, rfl, rfl, trivial⟩ ⟨rfl, rfl, rfl, trivial⟩) ?_
      refine ⟨n7, by rw [hq2]; exact n5, ?_⟩
      refine ⟨_, _, _, _, Fn.arg (args := [vP 1001, vI fr, vI lg, vI (fr / g), vI 0, .c (.one (.clo 102 [.p 3001 0]))]) he2 ⟨rfl, rfl, rfl, hq2, rfl, rfl, trivial⟩ |> Fn.ren [(3001, 3)], ⟨rfl, rfl, rfl, trivial⟩, rfl, ?_⟩
      refine ⟨rfl, ?_⟩
      exact ⟨_, _, _, Le.refl _ _, rfl, rfl, ⟨rfl, rfl, trivial⟩, rfl⟩
    · have hl : ¬ lg = 0 := of_decide_eq_false hl
      rw [if_neg hl]
      show TrQ _ _ _ _ _ _ _
      refine TrQ.go tblOK (drawOK tblOK) [] (by kernel_rfl) (Le.sub (K' := bzK fr lg en) (B' := bz3 s g es) ⟨rfl, rfl, rfl, hq1, trivial⟩ ⟨rfl, rfl, rfl, trivial⟩) ?_
      refine ⟨n7, by rw [hq2]; exact n5, ?_⟩
      refine ⟨_, _, _, _, Fn.arg (args := [vP 1001, vI fr, vI lg, vI (fr / g), vI en, .c (.one (.clo 102 [.p 3001 0]))]) he1 ⟨rfl, rfl, rfl, hq2, rfl, rfl, trivial⟩ |> Fn.ren [(3001, 3)], ⟨rfl, rfl, rfl, trivial⟩, rfl, ?_⟩
      refine ⟨rfl, ?_⟩
      exact ⟨_, _, _, Le.refl _ _, rfl, rfl, ⟨rfl, rfl, trivial⟩, rfl⟩
  · have e0 : bzSet s g es fr lg = es := if_neg hv
    rw [e0, if_neg hv]
    have he := fun fi en => bzeach_no s g es fr lg fi en hv hs
    refine Fn.of tblOK [1,4] _ _ _ _ _ Tryz.func74 rfl rfl (by kernel_rfl) (by kernel_rfl) rfl (drawOK tblOK) rfl ?_
    refine ⟨rfl, ?_⟩
    show TrQ _ _ _ _ _ _ _
    refine TrQ.ro (2000000 + 10) (by decide) ?_
    refine TrQ.ro (2000000 + 15) (by decide) ?_
    refine TrQ.ro (2000000 + 16) (by decide) ?_
    refine TrQ.ro (2000000 + 21) (by decide) ?_
    refine TrQ.go tblOK (drawOK tblOK) [4] (by kernel_rfl) (Le.refl _ _) ?_
    refine ⟨_, _, fun N => opOK_arW rfl rfl rfl (.inl ⟨rfl, rfl⟩) N, rfl, ?_⟩
    refine ⟨_, _, fun N => opOK_arW rfl rfl rfl (.inl ⟨rfl, rfl⟩) N, rfl, ?_⟩
    refine ⟨_, _, fun N => opOK_arW rfl rfl rfl (.inr (.inl ⟨rfl, rfl⟩)) N, rfl, ?_⟩
    refine ⟨_, _, fun N => opOK_arW rfl rfl rfl (.inr (.inr ⟨rfl, by omega, rfl⟩)) N, rfl, ?_⟩
    refine ⟨rfl, ?_⟩
    generalize IntKind.i64.wrap _ = en
    refine ⟨fun _ => ?_, fun _ => ?_⟩
    · show TrQ _ _ _ _ _ _ _
      refine TrQ.le (Le.sub (K' := bzK fr lg 0) (B' := bz3 s g es) ⟨rfl, rfl, rfl, rfl, trivial⟩ ⟨rfl, rfl, rfl, trivial⟩) ?_
      refine TrQ.ro (2000000 + 32) (by decide) ?_
      refine TrQ.go tblOK (drawOK tblOK) [] (by kernel_rfl) (Le.refl _ _) ?_
      refine ⟨_, _, fun N => opOK_arW rfl rfl rfl (.inr (.inr ⟨rfl, by omega, rfl⟩)) N, rfl, ?_⟩
      refine ⟨_, _, _, _, Fn.ren [(3001, 3)] (he _ _), ⟨rfl, rfl, rfl, trivial⟩, rfl, ?_⟩
      refine ⟨rfl, ?_⟩
      exact ⟨_, _, _, Le.refl _ _, rfl, rfl, ⟨rfl, rfl, trivial⟩, rfl⟩
    · show TrQ _ _ _ _ _ _ _
      refine TrQ.le (Le.sub (K' := bzK fr lg en) (B' := bz3 s g es) ⟨rfl, rfl, rfl, rfl, trivial⟩ ⟨rfl, rfl, rfl, trivial⟩) ?_
      refine TrQ.ro (2000000 + 32) (by decide) ?_
      refine TrQ.go tblOK (drawOK tblOK) [] (by kernel_rfl) (Le.refl _ _) ?_
      refine ⟨_, _, fun N => opOK_arW rfl rfl rfl (.inr (.inr ⟨rfl, by omega, rfl⟩)) N, rfl, ?_⟩
      refine ⟨_, _, _, _, Fn.ren [(3001, 3)] (he _ _), ⟨rfl, rfl, rfl, trivial⟩, rfl, ?_⟩
      refine ⟨rfl, ?_⟩
      exact ⟨_, _, _, Le.refl _ _, rfl, rfl, ⟨rfl, rfl, trivial⟩, rfl⟩
/-! The document's bitmaps: New, inside, Set; a seat's dirty bits. -/
@[reducible] def rzL (s g : Int) (l : List Bool) : List S1 := [.d (.int .i64 s), .d (.int .i64 g), .d (.lst .bool l)]
@[reducible] def rzV (s g : Int) (l : List Bool) : SC := .agg (rzL s g l)
@[reducible] def rzK1 (s g : Int) (i : Nat) : KL := [(0, vI s), (1, vI g), (4, vP 4), (6, vI ((2 ^ i : Nat) : Int))]
@[reducible] def rzK2 (s g : Int) (j : Nat) : KL := [(0, vI s), (1, vI g), (4, vP 4), (7, vP 7), (8, vI ((j : Int) * g))]
@[reducible] def rzB1 : BL := [(4, .cells [.d (.int .i64 0), .d (.int .i64 0), .nils])]
@[reducible] def rzB3 (c : Nat) (s g : Int) (j : Nat) : BL := rzB1 ++ [(7, .cells [.d (.int .i64 s), .d (.int .i64 g), .own c]), (c, .row 4 .bool (List.replicate j false))]
@[reducible] def rzB2 (s g : Int) (j : Nat) : BL := rzB3 5002 s g j
def rzPow (g : Int) : Bool := (List.range 7).any fun i => decide (g = ((2 ^ i : Nat) : Int))
theorem rzPow_yes {g : Int} {i : Nat} (hi : i ≤ 6) (h : g = ((2 ^ i : Nat) : Int)) : rzPow g = true := by
  unfold rzPow
  rw [List.any_eq_true]
  exact ⟨i, List.mem_range.2 (by omega), decide_eq_true h⟩
theorem rzPow_no {g : Int} (h : ∀ k : Nat, k < 7 → g ≠ ((2 ^ k : Nat) : Int)) : rzPow g = false := by
  unfold rzPow
  rw [List.any_eq_false]
  intro i hi
  simpa using h i (List.mem_range.1 hi)
def rzN (s g : Int) : Nat := ((s + g - 1) / g).toNat
theorem rzN_of {s g : Int} {j : Nat} (hg : 1 ≤ g) (h1 : s ≤ (j : Int) * g) (h2 : (j : Int) * g ≤ s + g - 1) : rzN s g = j := by
  unfold rzN
  have e1 : (j : Int) ≤ (s + g - 1) / g := Int.le_ediv_of_mul_le (by omega) h2
  have e2 : (s + g - 1) / g < (j : Int) + 1 := Int.ediv_lt_of_lt_mul (by omega) (by rw [Int.add_mul]; omega)
  omega
def rzOKs (s g : Int) : Bool := (decide (0 ≤ s) && decide (s ≤ 4096)) && rzPow g
def rzNew (s g : Int) : Bool × List Bool := if rzOKs s g = true then (true, List.replicate (rzN s g) false) else (false, [])
set_option maxHeartbeats 1000000 in
theorem rznew_fn (s g : Int) : Fn Tryz.prog 73 [vI s, vI g] [] [] (.tup [rzV (if (rzNew s g).1 = true then s else 0) (if (rzNew s g).1 = true then g else 0) (rzNew s g).2, .one (.d (.bool (rzNew s g).1))]) [] := by
  have hF : rzOKs s g = false → rzNew s g = (false, []) := fun e => if_neg (by rw [e]; decide)
  have hT : ∀ (i j : Nat), i ≤ 6 → g = ((2 ^ i : Nat) : Int) → (0 ≤ s ∧ s ≤ 4096) → rzN s g = j → rzNew s g = (true, List.replicate j false) := fun i j h1 h2 h3 h4 => by
    unfold rzNew
    rw [if_pos (by unfold rzOKs; rw [decide_eq_true h3.1, decide_eq_true h3.2, rzPow_yes h1 h2]; rfl), h4]
  generalize hR : rzNew s g = R at *
  refine Fn.of tblOK [3,7,12] _ _ _ _ _ Tryz.func73 rfl rfl (by kernel_rfl) (by kernel_rfl) rfl (drawOK tblOK) rfl ?_
  refine ⟨rfl, ?_⟩
  refine ⟨fun h1 => ?_, fun h1 => ?_⟩
  · have h1 : s < 0 := of_decide_eq_true h1
    have eR := hF (by unfold rzOKs; rw [decide_eq_false (by omega : ¬ 0 ≤ s)]; rfl)
    subst eR
    exact ⟨_, _, _, Le.refl _ _, rfl, ⟨⟨rfl, rfl, rfl, trivial⟩, rfl, trivial⟩, trivial, rfl⟩
  refine ⟨fun h2 => ?_, fun h2 => ?_⟩
  · have h2 : (4096 : Int) < s := of_decide_eq_true h2
    have eR := hF (by unfold rzOKs; rw [decide_eq_false (by omega : ¬ s ≤ 4096), Bool.and_false]; rfl)
    subst eR
    exact ⟨_, _, _, Le.refl _ _, rfl, ⟨⟨rfl, rfl, rfl, trivial⟩, rfl, trivial⟩, trivial, rfl⟩
  have h1 : ¬ s < 0 := of_decide_eq_false h1
  have h2 : ¬ (4096 : Int) < s := of_decide_eq_false h2
  show TrQ _ _ _ _ _ _ _
  refine TrQ.go tblOK (drawOK tblOK) [7,12] (by kernel_rfl) (Le.refl _ _) ?_
  show TrQ _ _ _ _ _ _ _
  refine TrQ.loop tblOK (drawOK tblOK) [7,12] (by kernel_rfl) (X := Nat) (fun i => rzK1 s g i) (fun _ => rzB1) (fun i => i ≤ 7 ∧ ∀ k : Nat, k < i → g ≠ ((2 ^ k : Nat) : Int)) (fun i => 7 - i) 0 ⟨Nat.zero_le _, fun k h => absurd h (Nat.not_lt_zero k)⟩ ?_ ?_
  · exact Le.sub ⟨rfl, rfl, rfl, rfl, trivial⟩ ⟨rfl, trivial⟩
  rintro i ⟨hi, hno⟩
  have hi : i ≤ 7 := hi
  have hp : i ≤ 6 ∧ 2 ^ i ≤ 64 ∧ 1 ≤ 2 ^ i ∨ i = 7 := by
    match i, hi with
    | 0, _ => decide
    | 1, _ => decide
    | 2, _ => decide
    | 3, _ => decide
    | 4, _ => decide
    | 5, _ => decide
    | 6, _ => decide
    | 7, _ => decide
  have hsc : ((2 ^ i : Nat) : Int) + ((2 ^ i : Nat) : Int) = ((2 ^ (i + 1) : Nat) : Int) := by rw [Nat.pow_succ]; omega
  refine ⟨fun hc => ?_, fun hc => ?_⟩
  · have hc : decide (((2 ^ i : Nat) : Int) ≤ 64) = true := hc
    have hc := of_decide_eq_true hc
    have hi6 : i ≤ 6 ∧ 2 ^ i ≤ 64 ∧ 1 ≤ 2 ^ i := hp.resolve_right (fun e => by subst e; exact absurd hc (by decide))
    refine ⟨fun hg => ?_, fun hg => ?_⟩
    · have hg : ((2 ^ i : Nat) : Int) = g := of_decide_eq_true hg
      have g1 : 1 ≤ g ∧ g ≤ 64 := by omega
      show TrQ _ _ _ _ _ _ _
      refine TrQ.go tblOK (drawOK tblOK) [12] (by kernel_rfl) (Le.sub (K' := [(0, vI s), (1, vI g), (4, vP 4)]) (B' := rzB1) ⟨rfl, rfl, rfl, trivial⟩ ⟨rfl, trivial⟩) ?_
      refine ⟨rfl, ?_⟩
      show TrQ _ _ _ _ _ _ _
      refine TrQ.loop tblOK (drawOK tblOK) [12] (by kernel_rfl) (X := Nat) (fun j => rzK2 s g j) (fun j => rzB2 s g j) (fun j => j ≤ 4097 ∧ (j = 0 ∨ ((j : Int) - 1) * g < s)) (fun j => 4097 - j) 0 ⟨Nat.zero_le _, .inl rfl⟩ ?_ ?_
      · exact Le.trans (Le.nilc 7 2 5002 4 .bool rfl rfl rfl) (Le.sub ⟨rfl, rfl, rfl, rfl, (show (0 : Int) = ((0 : Nat) : Int) * g by omega), trivial⟩ ⟨rfl, rfl, rfl, trivial⟩)
      rintro j ⟨hj, hj2⟩
      have hj : j ≤ 4097 := hj
      refine ⟨fun hc2 => ?_, fun hc2 => ?_⟩
      · have hc2 : decide ((j : Int) * g < s) = true := hc2
        have hc2 := of_decide_eq_true hc2
        have hjg : (j : Int) ≤ (j : Int) * g := by
          have := Int.mul_le_mul_of_nonneg_left g1.1 (Int.natCast_nonneg j)
          omega
        have hlen : List.length (α := El .bool) (List.replicate j false) + 1 ≤ 4294967296 := by
          show (List.replicate j false).length + 1 ≤ 4294967296
          rw [List.length_replicate]
          omega
        have hrep : List.replicate j false ++ [false] = List.replicate (j + 1) false := by rw [List.replicate_succ']
        have hsum : (j : Int) * g + g = ((j + 1 : Nat) : Int) * g := by rw [Int.natCast_add, Int.add_mul]; omega
        refine ⟨hlen, rfl, ?_⟩
        refine ⟨by omega, ?_⟩
        refine ⟨j + 1, ⟨by omega, .inr (by have : (((j + 1 : Nat) : Int) - 1) * g = (j : Int) * g := by congr 1; omega
                                           omega)⟩, by omega, ?_⟩
        refine Le.trans (Le.sub (K' := rzK2 s g (j + 1)) (B' := rzB3 36 s g (j + 1)) ⟨rfl, rfl, rfl, rfl, hsum, trivial⟩ ⟨rfl, rfl, congrArg (fun z => some (Ch.row 4 .bool z)) hrep, trivial⟩) (Le.trans (Le.ren 36 5002 rfl) (Le.sub ⟨rfl, rfl, rfl, rfl, rfl, trivial⟩ ⟨rfl, rfl, rfl, trivial⟩))
      · have hjg : ∀ (_ : j ≠ 0), (j : Int) - 1 ≤ ((j : Int) - 1) * g := fun _ => by
          have := Int.mul_le_mul_of_nonneg_left g1.1 (show (0 : Int) ≤ (j : Int) - 1 by omega)
          omega
        have hjl : j ≤ 5000 := by
          rcases hj2 with e | e
          · omega
          · by_cases c : j = 0
            · omega
            · have := hjg c
              omega
        have hc3 : decide ((j : Int) * g < s) = false := hc2
        have hc3 := of_decide_eq_false hc3
        have hN : rzN s g = j := by
          refine rzN_of g1.1 (by omega) ?_
          rcases hj2 with e | e
          · subst e
            omega
          · have : ((j : Int) - 1) * g = (j : Int) * g - g := by rw [Int.sub_mul]; omega
            omega
        have eR := hT i j hi6.1 hg.symm (by omega) hN
        subst eR
        show TrQ _ _ _ _ _ _ _
        refine TrQ.go tblOK (drawOK tblOK) [] (by kernel_rfl) (Le.frz 5002 rfl) ?_
        exact ⟨_, _, _, Le.refl _ _, rfl, ⟨⟨rfl, rfl, rfl, trivial⟩, rfl, trivial⟩, trivial, rfl⟩
    · have hg : ¬ ((2 ^ i : Nat) : Int) = g := of_decide_eq_false hg
      refine ⟨by omega, ?_⟩
      refine ⟨i + 1, ⟨by omega, fun k hk => ?_⟩, by omega, Le.sub ⟨rfl, rfl, rfl, hsc, trivial⟩ ⟨rfl, trivial⟩⟩
      by_cases e : k = i
      · subst e
        exact fun h => hg h.symm
      · exact hno k (by omega)
  · have hc : decide (((2 ^ i : Nat) : Int) ≤ 64) = false := hc
    have hc := of_decide_eq_false hc
    have hi7 : i = 7 := hp.resolve_left (fun e => hc (by omega))
    subst hi7
    have eR := hF (by unfold rzOKs; rw [rzPow_no hno, Bool.and_false])
    subst eR
    exact ⟨_, _, _, Le.refl _ _, rfl, ⟨⟨rfl, rfl, rfl, trivial⟩, rfl, trivial⟩, trivial, rfl⟩
theorem rzin_fn (s g : Int) (l : List Bool) (fr lg : Int) (hs : 0 ≤ s ∧ s ≤ 4096) : Fn Tryz.prog 103 [.c (rzV s g l), vI fr, vI lg] [] [] (vB (decide (bzV s fr lg))) [] := by
  have e1 : ¬ 0 ≤ lg → decide (bzV s fr lg) = false := fun e => decide_eq_false fun h => e h.1
  have e2 : ¬ 0 ≤ fr → decide (bzV s fr lg) = false := fun e => decide_eq_false fun h => e h.2.1
  have e3 : ¬ lg ≤ s → decide (bzV s fr lg) = false := fun e => decide_eq_false fun h => e h.2.2.1
  have e4 : 0 ≤ lg → 0 ≤ fr → lg ≤ s → decide (bzV s fr lg) = decide (fr ≤ s - lg) := fun h1 h2 h3 => by
    by_cases c : fr ≤ s - lg
    · rw [decide_eq_true c, decide_eq_true (show bzV s fr lg from ⟨h1, h2, h3, c⟩)]
    · rw [decide_eq_false c, decide_eq_false fun h : bzV s fr lg => c h.2.2.2]
  generalize decide (bzV s fr lg) = b at *
  refine Fn.of tblOK [] _ _ _ _ _ Tryz.func103 rfl rfl (by kernel_rfl) (by kernel_rfl) rfl (drawOK tblOK) rfl ?_
  refine ⟨rfl, ?_⟩
  refine ⟨fun h1 => ?_, fun h1 => ?_⟩
  case refine_2 =>
    exact ⟨_, _, _, Le.refl _ _, rfl, (e1 (of_decide_eq_false h1)).symm, trivial, rfl⟩
  have h1 : 0 ≤ lg := of_decide_eq_true h1
  refine ⟨fun h2 => ?_, fun h2 => ?_⟩
  case refine_2 =>
    exact ⟨_, _, _, Le.refl _ _, rfl, (e2 (of_decide_eq_false h2)).symm, trivial, rfl⟩
  have h2 : 0 ≤ fr := of_decide_eq_true h2
  refine ⟨fun h3 => ?_, fun h3 => ?_⟩
  case refine_2 =>
    exact ⟨_, _, _, Le.refl _ _, rfl, (e3 (of_decide_eq_false h3)).symm, trivial, rfl⟩
  have h3 : lg ≤ s := of_decide_eq_true h3
  refine ⟨by omega, ?_⟩
  exact ⟨_, _, _, Le.refl _ _, rfl, (e4 h1 h2 h3).symm, trivial, rfl⟩
/-! ### the document's Set -/
def rzJ (s g : Int) (k : Nat) : Nat := min g.toNat (s - (k : Int) * g).toNat
def rzF (g fr lg : Int) (k i : Nat) : Bool := decide (fr ≤ (k : Int) * g + (i : Int)) && decide ((k : Int) * g + (i : Int) < fr + lg)
def rzP (g fr lg : Int) (k j : Nat) : Bool := (List.range j).any (rzF g fr lg k)
theorem rzP_succ (g fr lg : Int) (k j : Nat) : rzP g fr lg k (j + 1) = (rzP g fr lg k j || rzF g fr lg k j) := by
  unfold rzP
  rw [List.range_succ, List.any_append]
  simp
def rzOne (s g fr lg : Int) (k : Nat) : Bool := rzP g fr lg k (rzJ s g k)
def rzRow (s g fr lg : Int) (l : List Bool) : Nat → List Bool
  | 0 => l
  | k + 1 => if rzOne s g fr lg k = true then (rzRow s g fr lg l k).set k true else rzRow s g fr lg l k
theorem rzRow_len (s g fr lg : Int) (l : List Bool) : ∀ k, (rzRow s g fr lg l k).length = l.length
  | 0 => rfl
  | k + 1 => by
    show (if rzOne s g fr lg k = true then (rzRow s g fr lg l k).set k true else rzRow s g fr lg l k).length = _
    split
    · rw [List.length_set, rzRow_len s g fr lg l k]
    · exact rzRow_len s g fr lg l k
def rzSet (s g fr lg : Int) (l : List Bool) : List Bool := if bzV s fr lg then rzRow s g fr lg l l.length else l
theorem rzSet_len (s g fr lg : Int) (l : List Bool) : (rzSet s g fr lg l).length = l.length := by
  unfold rzSet
  split
  · exact rzRow_len _ _ _ _ _ _
  · rfl
@[reducible] def rsK (fr lg : Int) (k : Nat) : KL := [(1, vI fr), (2, vI lg), (3, vLit true), (4, vP 4), (8, vP 8), (10, vOwn 5002), (11, vI (k : Int))]
@[reducible] def rsK2 (fr lg g : Int) (k j : Nat) (al : Bool) : KL := [(1, vI fr), (2, vI lg), (3, vLit true), (4, vP 4), (8, vP 8), (10, vOwn 5002), (11, vI (k : Int)), (12, vB (rzP g fr lg k j)), (13, vB al), (14, vI ((k : Int) * g + (j : Int)))]
@[reducible] def rsB (s g : Int) (l : List Bool) (x : List Bool) : BL := [(4, .cells (rzL s g l)), (8, .cells [.d (.int .i64 0), .d (.int .i64 0), .nils]), (5002, .row 4 .bool x)]
set_option maxHeartbeats 2000000 in
theorem rzset_fn (s g : Int) (l : List Bool) (fr lg : Int) (hl : l.length ≤ 5000) (hs : 0 ≤ s ∧ s ≤ 4096) (hg : 1 ≤ g ∧ g ≤ 64) : Fn Tryz.prog 75 [.c (rzV s g l), vI fr, vI lg, vLit true] [] [] (.tup [rzV s g (rzSet s g fr lg l), vErr (if bzV s fr lg then 0 else 1)]) [] := by
  have e1 : ¬ bzV s fr lg → rzSet s g fr lg l = l ∧ (if bzV s fr lg then (0 : Int) else 1) = 1 := fun e => ⟨if_neg e, if_neg e⟩
  have e2 : bzV s fr lg → rzSet s g fr lg l = rzRow s g fr lg l l.length ∧ (if bzV s fr lg then (0 : Int) else 1) = 0 := fun e => ⟨if_pos e, if_pos e⟩
  refine Fn.of tblOK [3,19] _ _ _ _ _ Tryz.func75 rfl rfl (by kernel_rfl) (by kernel_rfl) rfl (drawOK tblOK) rfl ?_
  refine ⟨rfl, rfl, ?_⟩
  refine ⟨_, _, _, _, rzin_fn s g l fr lg hs, trivial, rfl, ?_⟩
  refine ⟨fun hv => ?_, fun hv => ?_⟩
  · have hv : (!decide (bzV s fr lg)) = true := hv
    have hv : ¬ bzV s fr lg := by simpa using hv
    exact ⟨_, _, _, Le.refl _ _, rfl, ⟨⟨rfl, rfl, (e1 hv).1.symm, trivial⟩, (e1 hv).2.symm, trivial⟩, trivial, rfl⟩
  have hv : bzV s fr lg := by
    have hv : (!decide (bzV s fr lg)) = false := hv
    simpa using hv
  have e3 := e2 hv
  obtain ⟨v1, v2, v3, v4⟩ := hv
  have hlen : List.length (α := El .bool) [] + List.length (α := El .bool) l ≤ 4294967296 := by
    show 0 + l.length ≤ 4294967296
    omega
  show TrQ _ _ _ _ _ _ _
  refine TrQ.go tblOK (drawOK tblOK) [19] (by kernel_rfl) (Le.refl _ _) ?_
  refine ⟨rfl, hlen, rfl, ?_⟩
  show TrQ _ _ _ _ _ _ _
  refine TrQ.loop tblOK (drawOK tblOK) [19] (by kernel_rfl) (X := Nat) (fun k => rsK fr lg k) (fun k => rsB s g l (rzRow s g fr lg l k)) (fun k => k ≤ l.length) (fun k => l.length - k) 0 (Nat.zero_le _) ?_ ?_
  · exact Le.trans (Le.sub (K' := [(1, vI fr), (2, vI lg), (3, vLit true), (4, vP 4), (8, vP 8), (10, vOwn 25), (11, vI 0)]) (B' := [(4, .cells (rzL s g l)), (8, .cells [.d (.int .i64 0), .d (.int .i64 0), .nils]), (25, .row 4 .bool l)]) ⟨rfl, rfl, rfl, rfl, rfl, rfl, rfl, trivial⟩ ⟨rfl, rfl, rfl, trivial⟩) (Le.trans (Le.ren 25 5002 rfl) (Le.sub ⟨rfl, rfl, rfl, rfl, rfl, rfl, rfl, trivial⟩ ⟨rfl, rfl, rfl, trivial⟩))
  intro k hk
  have hk : k ≤ l.length := hk
  have hx := rzRow_len s g fr lg l k
  refine ⟨fun hc => ?_, fun hc => ?_⟩
  · have hc : decide ((k : Int) < (((rzRow s g fr lg l k).length : Nat) : Int)) = true := hc
    have hkl : k < l.length := by have := of_decide_eq_true hc; omega
    have hkg : (0 : Int) ≤ (k : Int) * g := Int.mul_nonneg (by omega) (by omega)
    have hkg2 : (k : Int) * g ≤ 5000 * 64 := Int.le_trans (Int.mul_le_mul_of_nonneg_right (by omega : (k : Int) ≤ 5000) (by omega)) (Int.mul_le_mul_of_nonneg_left hg.2 (by decide))
    have mR : (-9223372036854775808 : Int) ≤ (k : Int) * g ∧ (k : Int) * g ≤ 9223372036854775807 := by omega
    have mI : (0 : Int) ≤ (k : Int) ∧ (k : Int) < (((rzRow s g fr lg l k).length : Nat) : Int) := by omega
    have mS : (k : Int).toNat < (rzRow s g fr lg l k).length := by omega
    refine ⟨mR, ?_⟩
    show TrQ _ _ _ _ _ _ _
    refine TrQ.loop tblOK (drawOK tblOK) [19] (by kernel_rfl) (X := Nat × Bool) (fun z => rsK2 fr lg g k z.1 z.2) (fun _ => rsB s g l (rzRow s g fr lg l k)) (fun z => z.1 ≤ rzJ s g k) (fun z => g.toNat - z.1) (0, true) (Nat.zero_le _) ?_ ?_
    · exact Le.sub ⟨rfl, rfl, rfl, rfl, rfl, rfl, rfl, rfl, rfl, (show (k : Int) * g = (k : Int) * g + ((0 : Nat) : Int) by omega), trivial⟩ ⟨rfl, rfl, rfl, trivial⟩
    rintro ⟨j, al⟩ hj
    have hj : j ≤ rzJ s g k := hj
    have hjg : j ≤ g.toNat := by unfold rzJ at hj; omega
    have mQ : (-9223372036854775808 : Int) ≤ (k : Int) * g + g ∧ (k : Int) * g + g ≤ 9223372036854775807 := by omega
    refine ⟨mR, mQ, ?_⟩
    have hnx : (k : Int) * g + (j : Int) + 1 = (k : Int) * g + ((j + 1 : Nat) : Int) := by omega
    refine ⟨fun c1 => ?_, fun c1 => ?_⟩
    · have c1 : decide ((k : Int) * g + (j : Int) < (k : Int) * g + g) = true := c1
      have c1 := of_decide_eq_true c1
      refine ⟨fun c2 => ?_, fun c2 => ?_⟩
      · have c2 : decide ((k : Int) * g + (j : Int) < s) = true := c2
        have c2 := of_decide_eq_true c2
        have hj1 : j + 1 ≤ rzJ s g k := by unfold rzJ; omega
        refine ⟨fun c3 => ?_, fun c3 => ?_⟩
        · have c3 : decide (fr ≤ (k : Int) * g + (j : Int)) = true := c3
          have hin : rzF g fr lg k j = decide ((k : Int) * g + (j : Int) < fr + lg) := by unfold rzF; rw [c3]; rfl
          refine ⟨by omega, ?_⟩
          refine ⟨fun q1 => ?_, fun q1 => ?_⟩
          · have q1 : rzP g fr lg k j = true := q1
            refine ⟨fun _ => ?_, fun _ => ?_⟩
            · exact ⟨by omega, (j + 1, _), by show j + 1 ≤ rzJ s g k; omega, by show g.toNat - (j + 1) < g.toNat - j; omega, Le.sub ⟨rfl, rfl, rfl, rfl, rfl, rfl, rfl, (show true = rzP g fr lg k (j + 1) by rw [rzP_succ, q1]; rfl), rfl, hnx, trivial⟩ ⟨rfl, rfl, rfl, trivial⟩⟩
            · exact ⟨by omega, (j + 1, _), by show j + 1 ≤ rzJ s g k; omega, by show g.toNat - (j + 1) < g.toNat - j; omega, Le.sub ⟨rfl, rfl, rfl, rfl, rfl, rfl, rfl, (show true = rzP g fr lg k (j + 1) by rw [rzP_succ, q1]; rfl), rfl, hnx, trivial⟩ ⟨rfl, rfl, rfl, trivial⟩⟩
          · have q1 : rzP g fr lg k j = false := q1
            refine ⟨fun _ => ?_, fun _ => ?_⟩
            · exact ⟨by omega, (j + 1, _), by show j + 1 ≤ rzJ s g k; omega, by show g.toNat - (j + 1) < g.toNat - j; omega, Le.sub ⟨rfl, rfl, rfl, rfl, rfl, rfl, rfl, (show decide ((k : Int) * g + (j : Int) < fr + lg) = rzP g fr lg k (j + 1) by rw [rzP_succ, q1, hin]; rfl), rfl, hnx, trivial⟩ ⟨rfl, rfl, rfl, trivial⟩⟩
            · exact ⟨by omega, (j + 1, _), by show j + 1 ≤ rzJ s g k; omega, by show g.toNat - (j + 1) < g.toNat - j; omega, Le.sub ⟨rfl, rfl, rfl, rfl, rfl, rfl, rfl, (show decide ((k : Int) * g + (j : Int) < fr + lg) = rzP g fr lg k (j + 1) by rw [rzP_succ, q1, hin]; rfl), rfl, hnx, trivial⟩ ⟨rfl, rfl, rfl, trivial⟩⟩
        · have c3 : decide (fr ≤ (k : Int) * g + (j : Int)) = false := c3
          have hin : rzF g fr lg k j = false := by unfold rzF; rw [c3]; rfl
          refine ⟨fun q1 => ?_, fun q1 => ?_⟩
          · have q1 : rzP g fr lg k j = true := q1
            refine ⟨fun _ => ?_, fun _ => ?_⟩
            · exact ⟨by omega, (j + 1, _), by show j + 1 ≤ rzJ s g k; omega, by show g.toNat - (j + 1) < g.toNat - j; omega, Le.sub ⟨rfl, rfl, rfl, rfl, rfl, rfl, rfl, (show true = rzP g fr lg k (j + 1) by rw [rzP_succ, q1]; rfl), rfl, hnx, trivial⟩ ⟨rfl, rfl, rfl, trivial⟩⟩
            · exact ⟨by omega, (j + 1, _), by show j + 1 ≤ rzJ s g k; omega, by show g.toNat - (j + 1) < g.toNat - j; omega, Le.sub ⟨rfl, rfl, rfl, rfl, rfl, rfl, rfl, (show true = rzP g fr lg k (j + 1) by rw [rzP_succ, q1]; rfl), rfl, hnx, trivial⟩ ⟨rfl, rfl, rfl, trivial⟩⟩
          · have q1 : rzP g fr lg k j = false := q1
            refine ⟨fun _ => ?_, fun _ => ?_⟩
            · exact ⟨by omega, (j + 1, _), by show j + 1 ≤ rzJ s g k; omega, by show g.toNat - (j + 1) < g.toNat - j; omega, Le.sub ⟨rfl, rfl, rfl, rfl, rfl, rfl, rfl, (show false = rzP g fr lg k (j + 1) by rw [rzP_succ, q1, hin]; rfl), rfl, hnx, trivial⟩ ⟨rfl, rfl, rfl, trivial⟩⟩
            · exact ⟨by omega, (j + 1, _), by show j + 1 ≤ rzJ s g k; omega, by show g.toNat - (j + 1) < g.toNat - j; omega, Le.sub ⟨rfl, rfl, rfl, rfl, rfl, rfl, rfl, (show false = rzP g fr lg k (j + 1) by rw [rzP_succ, q1, hin]; rfl), rfl, hnx, trivial⟩ ⟨rfl, rfl, rfl, trivial⟩⟩
      · have c2 : decide ((k : Int) * g + (j : Int) < s) = false := c2
        have c2 := of_decide_eq_false c2
        have hjj : j = rzJ s g k := by unfold rzJ at hj ⊢; omega
        refine ⟨fun ho => ?_, fun ho => ?_⟩
        · have ho : rzOne s g fr lg k = true := by rw [hjj] at ho; exact ho
          refine ⟨mI, ?_⟩
          refine ⟨⟨trivial, mS⟩, ?_⟩
          exact ⟨by omega, k + 1, by omega, by show l.length - (k + 1) < l.length - k; omega, Le.sub ⟨rfl, rfl, rfl, rfl, rfl, rfl, rfl, trivial⟩ ⟨rfl, rfl, congrArg (fun z => some (Ch.row 4 .bool z)) (show List.set (rzRow s g fr lg l k) k true = rzRow s g fr lg l (k + 1) from (if_pos ho).symm), trivial⟩⟩
        · have ho : rzOne s g fr lg k = false := by rw [hjj] at ho; exact ho
          exact ⟨by omega, k + 1, by omega, by show l.length - (k + 1) < l.length - k; omega, Le.sub ⟨rfl, rfl, rfl, rfl, rfl, rfl, rfl, trivial⟩ ⟨rfl, rfl, congrArg (fun z => some (Ch.row 4 .bool z)) (show rzRow s g fr lg l k = rzRow s g fr lg l (k + 1) from (if_neg (by rw [ho]; decide)).symm), trivial⟩⟩
    · have c1 : decide ((k : Int) * g + (j : Int) < (k : Int) * g + g) = false := c1
      have c1 := of_decide_eq_false c1
      have hjj : j = rzJ s g k := by unfold rzJ at hj ⊢; omega
      refine ⟨fun ho => ?_, fun ho => ?_⟩
      · have ho : rzOne s g fr lg k = true := by rw [hjj] at ho; exact ho
        refine ⟨mI, ?_⟩
        refine ⟨⟨trivial, mS⟩, ?_⟩
        exact ⟨by omega, k + 1, by omega, by show l.length - (k + 1) < l.length - k; omega, Le.sub ⟨rfl, rfl, rfl, rfl, rfl, rfl, rfl, trivial⟩ ⟨rfl, rfl, congrArg (fun z => some (Ch.row 4 .bool z)) (show List.set (rzRow s g fr lg l k) k true = rzRow s g fr lg l (k + 1) from (if_pos ho).symm), trivial⟩⟩
      · have ho : rzOne s g fr lg k = false := by rw [hjj] at ho; exact ho
        exact ⟨by omega, k + 1, by omega, by show l.length - (k + 1) < l.length - k; omega, Le.sub ⟨rfl, rfl, rfl, rfl, rfl, rfl, rfl, trivial⟩ ⟨rfl, rfl, congrArg (fun z => some (Ch.row 4 .bool z)) (show rzRow s g fr lg l k = rzRow s g fr lg l (k + 1) from (if_neg (by rw [ho]; decide)).symm), trivial⟩⟩
  · have hc : decide ((k : Int) < (((rzRow s g fr lg l k).length : Nat) : Int)) = false := hc
    have hkl : k = l.length := by have := of_decide_eq_false hc; omega
    subst hkl
    show TrQ _ _ _ _ _ _ _
    refine TrQ.go tblOK (drawOK tblOK) [] (by kernel_rfl) (Le.frz 5002 rfl) ?_
    exact ⟨_, _, _, Le.refl _ _, rfl, ⟨⟨rfl, rfl, e3.1.symm, trivial⟩, e3.2.symm, trivial⟩, trivial, rfl⟩
/-! Law 17's dirty: a seat's dirty bits. -/
@[reducible] def uE : U := .pr uI (.pr uI uI)
abbrev Ext3 := Int × Int × Int
@[reducible] def exL (e : Ext3) : List S1 := [.d (.int .i64 e.1), .d (.int .i64 e.2.1), .d (.int .i64 e.2.2)]
@[reducible] def steL (nm : List UInt8) (al : Bool) (gr rm : Int) (ds : List Ext3) : List S1 := [.d (.str nm), .d (.bool al), .d (.int .i64 gr), .d (.int .i64 rm), .d (.lst uE ds)]
@[reducible] def steV (nm : List UInt8) (al : Bool) (gr rm : Int) (ds : List Ext3) : SV := .c (.agg (steL nm al gr rm ds))
abbrev RzR := Int × Int × List Bool
@[reducible] def rzRV (r : RzR) : SC := rzV r.1 r.2.1 r.2.2
def rzAll (s g : Int) (l : List Bool) (ds : List Ext3) (k : Nat) : List Bool := (ds.take k).foldl (fun l e => rzSet s g e.1 e.2.1 l) l
theorem rzAll_succ (s g : Int) (l : List Bool) {ds : List Ext3} {k : Nat} (h : k < ds.length) : rzAll s g l ds (k + 1) = rzSet s g ds[k].1 ds[k].2.1 (rzAll s g l ds k) := by
  unfold rzAll
  rw [List.take_add_one, List.getElem?_eq_getElem h, List.foldl_append]
  rfl
theorem rzAll_len (s g : Int) (l : List Bool) (ds : List Ext3) : ∀ k, (rzAll s g l ds k).length = l.length := fun k => by
  unfold rzAll
  generalize ds.take k = es
  induction es generalizing l with
  | nil => rfl
  | cons e es ih => rw [List.foldl_cons, ih, rzSet_len]
def bzAll (s g : Int) (ds : List Ext3) (k : Nat) : List (El uI × El uI) := (ds.take k).foldl (fun es e => bzSet s g es e.1 e.2.1) []
theorem bzAll_succ (s g : Int) {ds : List Ext3} {k : Nat} (h : k < ds.length) : bzAll s g ds (k + 1) = bzSet s g (bzAll s g ds k) ds[k].1 ds[k].2.1 := by
  unfold bzAll
  rw [List.take_add_one, List.getElem?_eq_getElem h, List.foldl_append]
  rfl
theorem pow_of : ∀ g : Fin 65, 1 ≤ g.val → g.val &&& (g.val - 1) = 0 → ∃ i : Fin 7, g.val = 2 ^ i.val := by decide
theorem bzOK_pow {s g : Int} (h : bzOK s g = true) : ∃ i : Nat, i ≤ 6 ∧ g = ((2 ^ i : Nat) : Int) := by
  obtain ⟨h1, h2, h3⟩ := bzOK_get h
  unfold bzOK at h
  simp only [Bool.and_eq_true] at h
  have h5 := of_decide_eq_true h.2
  have e1 : (g - 1).toNat = g.toNat - 1 := by omega
  rw [e1] at h5
  obtain ⟨i, hi⟩ := pow_of ⟨g.toNat, by omega⟩ (by show 1 ≤ g.toNat; omega) (by show g.toNat &&& (g.toNat - 1) = 0; omega)
  have hi : g.toNat = 2 ^ i.val := hi
  exact ⟨i.val, by omega, by rw [← hi]; omega⟩
theorem dirty_early (nm : List UInt8) (al : Bool) (gr rm : Int) (ds : List Ext3) (s : Int) (h : al = true ∨ 20 < ds.length) : ∃ r : RzR, Fn Tryz.prog 38 [steV nm al gr rm ds, vI s] [] [] (.tup [vNilP, rzRV r, .one (.d (.bool al))]) [] := by
  refine ⟨(0, 0, []), ?_⟩
  refine Fn.of tblOK [] _ _ _ _ _ Tryz.func38 rfl rfl (by kernel_rfl) (by kernel_rfl) rfl (drawOK tblOK) rfl ?_
  refine ⟨rfl, rfl, ?_⟩
  refine ⟨fun h1 => ?_, fun h1 => ?_⟩
  · refine ⟨rfl, ?_⟩
    exact ⟨_, _, _, Le.refl _ _, rfl, ⟨rfl, ⟨rfl, rfl, rfl, trivial⟩, rfl, trivial⟩, trivial, rfl⟩
  · refine ⟨fun h2 => ?_, fun h2 => ?_⟩
    · refine ⟨rfl, ?_⟩
      exact ⟨_, _, _, Le.refl _ _, rfl, ⟨rfl, ⟨rfl, rfl, rfl, trivial⟩, rfl, trivial⟩, trivial, rfl⟩
    · exfalso
      have h1 : al = false := h1
      have h2 : decide ((20 : Int) < ((ds.length : Nat) : Int)) = false := h2
      have h2 := of_decide_eq_false h2
      rcases h with h | h
      · rw [h] at h1; cases h1
      · omega
theorem dirty_no (nm : List UInt8) (gr rm : Int) (ds : List Ext3) (s : Int) (hd : ds.length ≤ 20) (h : bzOK s gr = false) : ∃ r : RzR, Fn Tryz.prog 38 [steV nm false gr rm ds, vI s] [] [] (.tup [vNilP, rzRV r, .one (.d (.bool false))]) [] := by
  refine ⟨((if (rzNew s gr).1 = true then s else 0), (if (rzNew s gr).1 = true then gr else 0), (rzNew s gr).2), ?_⟩
  have hrn := rznew_fn s gr
  generalize rzNew s gr = R at *
  refine Fn.of tblOK [4] _ _ _ _ _ Tryz.func38 rfl rfl (by kernel_rfl) (by kernel_rfl) rfl (drawOK tblOK) rfl ?_
  refine ⟨rfl, rfl, ?_⟩
  refine ⟨fun h => absurd h (by decide), fun _ => ?_⟩
  refine ⟨fun h2 => ?_, fun h2 => ?_⟩
  · exfalso
    have h2 : decide ((20 : Int) < ((ds.length : Nat) : Int)) = true := h2
    have := of_decide_eq_true h2
    omega
  refine ⟨_, _, _, _, bznew_no s gr h, trivial, rfl, ?_⟩
  show TrQ _ _ _ _ _ _ _
  refine TrQ.go tblOK (drawOK tblOK) [] (by kernel_rfl) (Le.refl _ _) ?_
  refine ⟨_, _, _, _, hrn, trivial, rfl, ?_⟩
  refine ⟨rfl, ?_⟩
  refine ⟨fun _ => ?_, fun h => absurd h (by decide)⟩
  refine ⟨rfl, ?_⟩
  exact ⟨_, _, _, Le.refl _ _, rfl, ⟨rfl, ⟨rfl, rfl, rfl, trivial⟩, rfl, trivial⟩, trivial, rfl⟩
@[reducible] def dyK (ds : List Ext3) (k : Nat) : KL := [(5, vP 5), (7, vP 2001), (9, vP 9), (52, vL uE ds), (53, vI (ds.length : Nat)), (54, vI (k : Nat))]
@[reducible] def dyB (s g : Int) (es : List (El uI × El uI)) (l : List Bool) : BL := [(5, .cells [.d (.int .i64 0), .d (.int .i64 0), .nils]), (9, .cells (rzL s g l)), (2001, .cells [.d (.int .i64 s), .d (.int .i64 g), .mp 2002]), (2002, .map uI uI es)]
@[reducible] def dyB2 (s g : Int) (es : List (El uI × El uI)) (l : List Bool) (e : Ext3) : BL := dyB s g es l ++ [(12, .cells (exL e))]
set_option maxHeartbeats 1000000 in
theorem dirty_ok (nm : List UInt8) (gr rm : Int) (ds : List Ext3) (s : Int) (hd : ds.length ≤ 20) (h : bzOK s gr = true) : ∃ r : RzR, Fn Tryz.prog 38 [steV nm false gr rm ds, vI s] [] [2001, 2002] (.tup [.one (.ptr 2001 0), rzRV r, .one (.d (.bool true))]) [(2001, .cells [.d (.int .i64 s), .d (.int .i64 gr), .mp 2002]), (2002, .map uI uI (bzAll s gr ds ds.length))] := by
  obtain ⟨g1, g2⟩ := bzOK_get h
  obtain ⟨ip, hp1, hp2⟩ := bzOK_pow h
  have hrn := rznew_fn s gr
  have hR : rzNew s gr = (true, List.replicate (rzN s gr) false) := by
    unfold rzNew
    rw [if_pos (by unfold rzOKs; rw [decide_eq_true g1.1, decide_eq_true g1.2, rzPow_yes hp1 hp2]; rfl)]
  rw [hR] at hrn
  have hx1 : (List.replicate (rzN s gr) false).length ≤ 5000 := by
    rw [List.length_replicate]
    unfold rzN
    have := Int.ediv_le_self (a := s + gr - 1) gr (by omega)
    omega
  generalize hl0 : List.replicate (rzN s gr) false = l0 at *
  have hrn : Fn Tryz.prog 73 [vI s, vI gr] [] [] (.tup [rzV s gr l0, .one (.d (.bool true))]) [] := hrn
  refine ⟨(s, gr, rzAll s gr l0 ds ds.length), ?_⟩
  refine Fn.of tblOK [4,10,11,14] _ _ _ _ _ Tryz.func38 rfl rfl (by kernel_rfl) (by kernel_rfl) rfl (drawOK tblOK) rfl ?_
  refine ⟨rfl, rfl, ?_⟩
  refine ⟨fun h => absurd h (by decide), fun _ => ?_⟩
  refine ⟨fun h2 => ?_, fun h2 => ?_⟩
  · exfalso
    have h2 : decide ((20 : Int) < ((ds.length : Nat) : Int)) = true := h2
    have := of_decide_eq_true h2
    omega
  refine ⟨_, _, _, _, bznew_ok s gr h, trivial, rfl, ?_⟩
  show TrQ _ _ _ _ _ _ _
  refine TrQ.go tblOK (drawOK tblOK) [10,11,14] (by kernel_rfl) (Le.refl _ _) ?_
  refine ⟨_, _, _, _, hrn, trivial, rfl, ?_⟩
  refine ⟨rfl, ?_⟩
  refine ⟨fun h => absurd h (by decide), fun _ => ?_⟩
  refine ⟨fun h => absurd (show (!true) = true from h) (by decide), fun _ => ?_⟩
  show TrQ _ _ _ _ _ _ _
  refine TrQ.loop tblOK (drawOK tblOK) [10,11,14] (by kernel_rfl) (X := Nat) (fun k => dyK ds k) (fun k => dyB s gr (bzAll s gr ds k) (rzAll s gr l0 ds k)) (fun k => k ≤ ds.length) (fun k => ds.length - k) 0 (Nat.zero_le _) ?_ ?_
  · exact Le.sub ⟨rfl, rfl, rfl, rfl, rfl, rfl, trivial⟩ ⟨rfl, rfl, rfl, rfl, trivial⟩
  intro k hk
  have hk : k ≤ ds.length := hk
  refine ⟨fun hc => ?_, fun hc => ?_⟩
  · have hc : decide ((k : Int) < ((ds.length : Nat) : Int)) = true := hc
    have hk1 : k < ds.length := by have := of_decide_eq_true hc; omega
    have hsc := bzAll_succ s gr hk1
    have hsr := rzAll_succ s gr l0 hk1
    have hl : (rzAll s gr l0 ds k).length ≤ 5000 := by rw [rzAll_len]; exact hx1
    have hget := lgAt (n := k) hk1
    generalize ds[k] = e at *
    have hst := bzset_fn s gr (bzAll s gr ds k) e.1 e.2.1 g1 g2
    have hrs := rzset_fn s gr (rzAll s gr l0 ds k) e.1 e.2.1 hl g1 g2
    generalize bzAll s gr ds k = es at *
    generalize rzAll s gr l0 ds k = l at *
    refine ⟨by omega, e, hget, ?_⟩
    refine ⟨rfl, ?_⟩
    show TrQ _ _ _ _ _ _ _
    refine TrQ.go tblOK (drawOK tblOK) [11,14] (by kernel_rfl) (Le.sub (K' := [(5, vP 5), (7, vP 2001), (9, vP 9), (52, vL uE ds), (53, vI (ds.length : Nat)), (54, vI (k : Nat)), (12, vP 12)]) (B' := dyB2 s gr es l e) ⟨rfl, rfl, rfl, rfl, rfl, rfl, rfl, trivial⟩ ⟨rfl, rfl, rfl, rfl, rfl, trivial⟩) ?_
    refine ⟨_, _, _, _, Fn.ren [(1001, 2001), (1002, 2002)] hst, ⟨rfl, rfl, trivial⟩, rfl, ?_⟩
    show TrQ _ _ _ _ _ _ _
    refine TrQ.go tblOK (drawOK tblOK) [14] (by kernel_rfl) (Le.sub (K' := [(5, vP 5), (7, vP 2001), (9, vP 9), (52, vL uE ds), (53, vI (ds.length : Nat)), (54, vI (k : Nat)), (12, vP 12)]) (B' := dyB2 s gr (bzSet s gr es e.1 e.2.1) l e) ⟨rfl, rfl, rfl, rfl, rfl, rfl, rfl, trivial⟩ ⟨rfl, rfl, rfl, rfl, rfl, trivial⟩) ?_
    refine ⟨_, _, _, _, hrs, trivial, rfl, ?_⟩
    refine ⟨rfl, ?_⟩
    exact ⟨by omega, k + 1, hk1, by omega, Le.sub ⟨rfl, rfl, rfl, rfl, rfl, rfl, trivial⟩ ⟨rfl, congrArg (fun z => some (Ch.cells (rzL s gr z))) hsr.symm, rfl, congrArg (fun z => some (Ch.map uI uI z)) hsc.symm, trivial⟩⟩
  · have hc : decide ((k : Int) < ((ds.length : Nat) : Int)) = false := hc
    have hk2 : k = ds.length := by have := of_decide_eq_false hc; omega
    subst hk2
    show TrQ _ _ _ _ _ _ _
    refine TrQ.go tblOK (drawOK tblOK) [] (by kernel_rfl) (Le.refl _ _) ?_
    refine ⟨rfl, ?_⟩
    exact ⟨_, _, _, Le.refl _ _, rfl, ⟨rfl, ⟨rfl, rfl, rfl, trivial⟩, rfl, trivial⟩, ⟨rfl, rfl, trivial⟩, rfl⟩
end Go.Proofs.YtbcngglcaeehbaaGreat
