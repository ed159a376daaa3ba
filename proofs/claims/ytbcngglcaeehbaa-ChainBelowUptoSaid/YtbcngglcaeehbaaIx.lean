/-
  maps.Clone.
-/
import Derived.Test.YtbcngglcaeehbaaCd
import Derived.Test.YtbcngglcaeehbaaLays
import Derived.Test.YtbcngglcaeehbaaTb
import Derived.Test.YtbcngglcaeehbaaCn
import Derived.Test.YtbcngglcaeehbaaVj
import Derived.Test.YtbcngglcaeehbaaDa
import Derived.Test.YtbcngglcaeehbaaRg
import Derived.Test.YtbcngglcaeehbaaIu
import Derived.Test.YtbcngglcaeehbaaIn
set_option linter.unusedVariables false
set_option linter.unusedSimpArgs false
set_option maxRecDepth 10000
namespace Go.Proofs.Ytbcngglcaeehbaa
open Go.RowKit Go.Proofs
theorem mapsClone_gen {ρ : Go.Shelf.Ren} (L : SlLaysW.n5 Try.prog ρ) (hcall : callable Try.prog (ρ.f 5) = true) {ku vu : U} (es : List (El ku × El vu)) :
    Fn Try.prog (ρ.f 5) [.c (.one (.mp 1001))] [(1001, .map ku vu es)] [2001] (.c (.one (.mp 2001))) [(1001, .map ku vu es), (2001, .map ku vu es)] := by
  refine ⟨hcall, fun ρ F I w vals hI hH hF hdj hlen hden => ?_⟩
  match vals, hlen with
  | [v], _ =>
    obtain rfl : v = .map (some (ρ 1001).blk) := hden 0 _ v rfl rfl
    obtain ⟨hF1, ents, clock, hb, hm, hB⟩ := hH 1001 _ rfl
    refine (AnyW.maps_Clone L _ _ _ w hb).mono ?_
    rintro e w' ⟨rfl, rfl⟩
    have hbel : Below w.heap.size w (w.alloc (.map (List.toArray ents) clock)) := (Below.refl _ _).alloc (Nat.le_refl _) _
    have hE : Ext I w I (w.alloc (.map (List.toArray ents) clock)) := fun b hbI => ⟨hbI, hbel.block b (hI b hbI)⟩
    have hlt := lt_of_heap hb
    refine ⟨_, upd ρ 2001 ⟨w.heap.size, none, 0, 0⟩, upd F 2001 (fun b => b = w.heap.size), rfl, Fr.of_below hbel, fun c hc => upd_other _ _ (fun e => hc (by simp [e])), I, hE, fun b hbI => ⟨Nat.lt_of_lt_of_le (hI b hbI) hbel.size, .inl hbI⟩, ?_, ?_, ?_, ?_⟩
    · intro c ch hc
      rw [lookB_cons] at hc
      split at hc
      · rename_i hc1; subst hc1; injection hc with hc; subst hc
        rw [upd_other _ _ (by decide), upd_other _ _ (by decide)]
        exact ⟨hF1, ents, clock, (hbel.block _ hlt).trans hb, hm.mono hE, hB⟩
      · rw [lookB_cons] at hc
        split at hc
        · rename_i hc1; subst hc1; injection hc with hc; subst hc
          rw [upd_same, upd_same]
          exact ⟨fun b => Iff.rfl, ents, clock, heap_alloc_new w _, hm.mono hE, hB⟩
        · simp [lookB] at hc
    · intro c ch hc b hbF
      rw [lookB_cons] at hc
      split at hc
      · rename_i hc1; subst hc1
        rw [upd_other _ _ (by decide)] at hbF
        have := hF 1001 _ rfl b hbF
        exact ⟨Nat.lt_of_lt_of_le this.1 hbel.size, this.2, .inl ⟨1001, _, rfl, hbF⟩⟩
      · rw [lookB_cons] at hc
        split at hc
        · rename_i hc1; subst hc1
          rw [upd_same] at hbF
          subst hbF
          exact ⟨by simp, fun hbI => by have := hI _ hbI; omega, .inr (Nat.le_refl _)⟩
        · simp [lookB] at hc
    · intro c c' ch ch' b hc hc' hne hb1 hb2
      have key : ∀ c ch, lookB [(1001, Ch.map ku vu es), (2001, Ch.map ku vu es)] c = some ch → c = 1001 ∨ c = 2001 := fun c ch hc => by
        rw [lookB_cons] at hc
        split at hc
        · rename_i h; exact .inl h.symm
        · rw [lookB_cons] at hc
          split at hc
          · rename_i h; exact .inr h.symm
          · simp [lookB] at hc
      rcases key c ch hc with rfl | rfl <;> rcases key c' ch' hc' with rfl | rfl
      · exact hne rfl
      · rw [upd_other _ _ (by decide)] at hb1
        rw [upd_same] at hb2
        have := (hF 1001 _ rfl b hb1).1
        omega
      · rw [upd_other _ _ (by decide)] at hb2
        rw [upd_same] at hb1
        have := (hF 1001 _ rfl b hb2).1
        omega
      · exact hne rfl
    · show Value.map (some w.heap.size) = Value.map (some (upd ρ 2001 _ 2001).blk)
      rw [upd_same]
/-! Tables and counts are copied. -/
theorem mapsCloneG_fn (es : List (El uI × El uG)) : Fn Try.prog 66 [.c (.one (.mp 1001))] [(1001, .map uI uG es)] [2001] (.c (.one (.mp 2001))) [(1001, .map uI uG es), (2001, .map uI uG es)] :=
  mapsClone_gen Try.clone66 (by kernel_rfl) es
theorem tcopy_fn (n : Int) (es : List (El uI × El uG)) : Fn Try.prog 46 [vP 1001] (tabB n es) [2001, 2002] (vP 2001) (tabB n es ++ [(2001, .cells [.d (.int .i64 n), .mp 2002]), (2002, .map uI uG es)]) := by
  refine Fn.of tblOK [] _ _ _ _ _ Try.func46 rfl rfl (by kernel_rfl) (by kernel_rfl) rfl (drawOK tblOK) rfl ?_
  refine ⟨_, _, _, _, Fn.ren [(1001, 1002), (2001, 2002)] (mapsCloneG_fn es), ⟨rfl, trivial⟩, rfl, ?_⟩
  refine ⟨rfl, ?_⟩
  refine ⟨rfl, ?_⟩
  exact ⟨_, _, _, Le.ren 13 2001 rfl, rfl, rfl, ⟨rfl, rfl, rfl, rfl, trivial⟩, rfl⟩
theorem cloneI_fn (l : List Int) (hl : l.length ≤ 1000000) : Fn Try.prog 67 [vOwn 1001] [(1001, .row 3 uI l)] [1002] (vOwn 1002) [(1001, .row 3 uI l), (1002, .row 3 uI l)] := by
  refine Fn.of tblOK [1] _ _ _ _ _ Try.func67 rfl rfl (by kernel_rfl) (by kernel_rfl) rfl (drawOK tblOK) rfl ?_
  show TrQ _ _ _ _ _ _ _
  refine TrQ.regionX tblOK (by kernel_rfl) ?_
  refine ⟨_, opS_ownNil (c := 1001) rfl rfl rfl Try.underlying90, fun v e h => ?_⟩
  obtain ⟨b, hb, rfl, rfl⟩ := h
  cases b
  · refine ⟨rfl, ?_⟩
    have m1 : ([] : List Int).length + l.length ≤ 4294967296 := by simp; omega
    refine ⟨m1, rfl, ?_⟩
    exact ⟨_, _, _, Le.ren 7 1002 rfl, rfl, rfl, ⟨rfl, rfl, trivial⟩, rfl⟩
  · have hb := hb rfl
    subst hb
    exact ⟨_, _, _, Le.nil 2 1002 3 uI rfl rfl, rfl, rfl, ⟨rfl, rfl, trivial⟩, rfl⟩
theorem ccopy_fn (l : List Int) (hl : l.length ≤ 1000000) : Fn Try.prog 47 [vP 1001] (cntB l) [2001, 2002] (vP 2001) (cntB l ++ [(2001, .cells [.own 2002]), (2002, .row 3 uI l)]) := by
  refine Fn.of tblOK [] _ _ _ _ _ Try.func47 rfl rfl (by kernel_rfl) (by kernel_rfl) rfl (drawOK tblOK) rfl ?_
  refine ⟨_, _, _, _, Fn.ren [(1001, 1002), (1002, 2002)] (cloneI_fn l hl), ⟨rfl, trivial⟩, rfl, ?_⟩
  refine ⟨rfl, ?_⟩
  exact ⟨_, _, _, Le.ren 9 2001 rfl, rfl, rfl, ⟨rfl, rfl, rfl, rfl, trivial⟩, rfl⟩
/-! The data of an image laid open: the map of slices, and the rows. -/
def rowsR (hs : Int → Option Pl) (f : FMap) (es : List (El uI × El .hdl)) (I F : Nat → Prop) (w : World) (p : Pl) : Prop := ∃ G, RowsG hs f es G I w ∧ ∀ b, F b ↔ ∃ k, G k b
def rowsHO (hs : Int → Option Pl) (f : FMap) (es : List (El uI × El .hdl)) : Ob where
  R := rowsR hs f es
  stable := fun I F w I' w' p ⟨G, h1, h2⟩ he hF hz => ⟨G, h1.stable he (fun k b hb => hF b ((h2 b).2 ⟨k, hb⟩)) hz, h2⟩
def rowsO (f : FMap) (es : List (El uI × El .hdl)) : Ob := rowsHO (fun _ => none) f es
def rowsH (f : FMap) (es : List (El uI × El .hdl)) (k : Int) : Pl → Ob := fun q => rowsHO (hole1 k q) f es
structure DaX (f : FMap) (es : List (El uI × El .hdl)) : Prop where
  nd : KNd es
  same : ∀ k : Int, (mget (ku := uI) (vu := .hdl) es k).isSome = (f k).isSome
section
variable {ids : List Nat} {K : KL} {B : BL}
theorem LeX.dataOpen (c d : Nat) {f : FMap} (hc : lookB B c = some (.obj (dataO f))) (hd : freshB ids K B d = true) : LeX ids K B (X := { es // DaX f es }) (fun _ => K) (fun es => (d, .obj (rowsO f es.1)) :: (c, .map uI .hdl es.1) :: B) := by
  rintro N C a w ⟨hn, hdf, ρ, F, hM, hS⟩
  obtain ⟨es, G, h1, h2, h3, ents, clock, h4, h5, h6⟩ : dataR (fun _ => none) f (Imm C B F w) (F c) w (ρ c) := hM.holds c _ hc
  obtain ⟨f1, f2, f3, f4⟩ := fresh_of hd
  have hcd : c ≠ d := fun e => by rw [← e, hc] at f2; cases f2
  have hx : DaX f es := ⟨h1.nd, fun k => by
    cases e : mget (ku := uI) (vu := .hdl) es k with
    | none => rw [(h1.none_ k e).1]; rfl
    | some x => obtain ⟨xs, p, a1, _⟩ := h1.some_ k x e rfl; rw [a1]; rfl⟩
  obtain ⟨hM', hE⟩ := hM.split (K := K) (ch1 := .map uI .hdl es) (ch2 := .obj (rowsO f es)) hc hd (ρ c) (fun b => b = (ρ c).blk) (fun b => ∃ k, G k b) (fun b hb => (h2 b).2 (.inl hb)) (fun b hb => (h2 b).2 (.inr hb)) (fun b hb ⟨k, hk⟩ => h3 k (hb ▸ hk))
    (fun I hI => ⟨fun b => Iff.rfl, ents, clock, h4, h5.mono hI, h6⟩)
    (fun I hI => ⟨G, h1.stable hI (fun _ _ _ => rfl) (Nat.le_refl _), fun b => Iff.rfl⟩)
  exact ⟨⟨es, hx⟩, hn, hdf, _, _, hM', hS.mono hE fun s e he => upd_other _ _ (fun e' => by subst e'; rw [f1 s] at he; cases he)⟩
theorem Le.rowOut (s c d : Nat) {f : FMap} {es : List (El uI × El .hdl)} {k : Int} {x : El .hdl} {xs : List UInt8} (hs : look K s = .c (.one (.d (.hdl x)))) (hc : lookB B c = some (.obj (rowsO f es))) (hd : freshB ids K B d = true) (hx : mget (ku := uI) (vu := .hdl) es k = some x) (hf : f k = some xs) :
    Le ids K B ((s, .c (.one (.own d))) :: K) ((d, .row 5 .u8 xs) :: (c, .dep d (rowsH f es k)) :: B) := by
  rintro N C a w ⟨hn, hdf, ρ, F, hM, hS⟩
  obtain ⟨G, h1, h2⟩ : rowsR (fun _ => none) f es (Imm C B F w) (F c) w (ρ c) := hM.holds c _ hc
  obtain ⟨f1, f2, f3, f4⟩ := fresh_of hd
  have hcd : c ≠ d := fun e => by rw [← e, hc] at f2; cases f2
  obtain ⟨ys, q, a1, a2, a3⟩ := h1.some_ k x hx rfl
  rw [hf] at a1
  injection a1 with a1
  subst a1
  have hH : (rowsH f es k q).R (Imm C B F w) (fun b => ∃ j, j ≠ k ∧ G j b) w (ρ c) := by
    refine ⟨fun j b => j ≠ k ∧ G j b, ⟨h1.nd, fun j hj => ?_, fun j y hj hh => ?_, fun j y q' hj hh => ?_, fun i j b hij a b => h1.disj i j _ hij a.2 b.2⟩, fun b => Iff.rfl⟩
    · obtain ⟨b1, _, b3⟩ := h1.none_ j hj
      have : j ≠ k := fun e' => by rw [e', hx] at hj; cases hj
      exact ⟨b1, if_neg this, fun b hb => b3 b hb.2⟩
    · have hne : j ≠ k := fun e' => by rw [show hole1 k q j = some q from if_pos e'] at hh; cases hh
      obtain ⟨ys, r, b1, b2, b3⟩ := h1.some_ j y hj rfl
      exact ⟨ys, r, b1, b2, b3.congr fun b => ⟨fun h => h.2, fun h => ⟨hne, h⟩⟩⟩
    · simp only [hole1] at hh
      split at hh
      · rename_i e'
        injection hh with hh
        subst e' hh
        rw [hx] at hj
        injection hj with hj
        subst hj
        exact ⟨a2, fun b hb => hb.1 rfl⟩
      · cases hh
  obtain ⟨hM', hE⟩ := hM.split (K := K) (ch1 := .dep d (rowsH f es k)) (ch2 := .row 5 .u8 xs) hc hd q (fun b => ∃ j, j ≠ k ∧ G j b) (G k) (fun b ⟨j, _, hj⟩ => (h2 b).2 ⟨j, hj⟩) (fun b hb => (h2 b).2 ⟨k, hb⟩) (fun b ⟨j, hj, hb⟩ hk => h1.disj j k b hj hb hk)
    (fun I hI => by
      show (rowsH f es k (upd ρ d q d)).R I _ w (ρ c)
      rw [upd_same]
      exact (rowsH f es k q).stable _ _ _ _ _ _ hH hI (fun _ _ => rfl) (Nat.le_refl _))
    (fun I hI => Holds.stable hI (fun _ _ => rfl) (Nat.le_refl _) _ (fun _ h => by cases h) a3)
  have hS' : Slots K (upd ρ d q) _ a w := hS.mono hE fun s e he => upd_other _ _ (fun e' => by subst e'; rw [f1 s] at he; cases he)
  refine ⟨hn, hdf, _, _, hM', fun t => ?_⟩
  rw [look_cons]
  split
  · rename_i e
    subst e
    have h := hS s
    rw [hs] at h
    show _ = (upd ρ d q d).hdr
    rw [upd_same, a2]
    exact h
  · exact hS' t
theorem Le.rowIn (c d : Nat) {f : FMap} {es : List (El uI × El .hdl)} {k : Int} {xs : List UInt8} (hf : f k = some xs) (hx : (mget (ku := uI) (vu := .hdl) es k).isSome = true) (hc : lookB B c = some (.dep d (rowsH f es k))) (hd : lookB B d = some (.row 5 .u8 xs)) (hne : c ≠ d) : Le ids K B K ((c, .obj (rowsO f es)) :: dropB B d) := by
  rintro N C a w ⟨hn, hdf, ρ, F, hM, hS⟩
  obtain ⟨G, h1, h2⟩ : rowsR (hole1 k (ρ d)) f es (Imm C B F w) (F c) w (ρ c) := hM.holds c _ hc
  have hr : rowH (Imm C B F w) (F d) w (ρ d) xs := hM.holds d _ hd
  have hdj : ∀ b, F c b → ¬ F d b := fun b hb hb' => hM.disj c d _ _ b hc hd hne hb hb'
  have hkk : hole1 k (ρ d) k = some (ρ d) := if_pos rfl
  obtain ⟨x, hx⟩ := Option.isSome_iff_exists.1 hx
  obtain ⟨a1, a2⟩ := h1.away k x _ hx hkk
  have hR : (rowsO f es).R (Imm C B F w) (fun b => F c b ∨ F d b) w (ρ c) := by
    refine ⟨fun j b => if j = k then F d b else G j b, ⟨h1.nd, fun j hj => ?_, fun j y hj _ => ?_, fun _ _ _ _ hh => (by cases hh), fun i j b hij ha hb => ?_⟩, fun b => ?_⟩
    · have hne : j ≠ k := fun e' => by rw [e', hx] at hj; cases hj
      obtain ⟨b1, _, b3⟩ := h1.none_ j hj
      exact ⟨b1, rfl, fun b hb => by rw [if_neg hne] at hb; exact b3 b hb⟩
    · by_cases hne : j = k
      · subst hne
        rw [hx] at hj
        injection hj with hj
        subst hj
        exact ⟨xs, ρ d, hf, a1, hr.congr fun b => by rw [if_pos rfl]⟩
      · obtain ⟨zs, r, b1, b2, b3⟩ := h1.some_ j y hj (if_neg hne)
        exact ⟨zs, r, b1, b2, b3.congr fun b => by rw [if_neg hne]⟩
    · by_cases hi : i = k
      · rw [if_pos hi] at ha
        have hj : j ≠ k := fun e' => hij (hi.trans e'.symm)
        rw [if_neg hj] at hb
        exact hdj b ((h2 b).2 ⟨j, hb⟩) ha
      · rw [if_neg hi] at ha
        by_cases hj : j = k
        · rw [if_pos hj] at hb
          exact hdj b ((h2 b).2 ⟨i, ha⟩) hb
        · rw [if_neg hj] at hb
          exact h1.disj i j b hij ha hb
    · show (F c b ∨ F d b) ↔ ∃ j, (if j = k then F d b else G j b)
      rw [h2]
      constructor
      · rintro (⟨j, h⟩ | h)
        · refine ⟨j, ?_⟩
          by_cases hj : j = k
          · subst hj; exact absurd h (a2 b)
          · rw [if_neg hj]; exact h
        · exact ⟨k, by rw [if_pos rfl]; exact h⟩
      · rintro ⟨j, h⟩
        by_cases hj : j = k
        · rw [if_pos hj] at h; exact .inr h
        · rw [if_neg hj] at h; exact .inl ⟨j, h⟩
  obtain ⟨hM', hE⟩ := hM.join (w' := w) (ch := .obj (rowsO f es)) hc hd hne (fun b => F c b ∨ F d b) (fun _ h => h) (Fr.refl _ _) fun I hI =>
    (rowsO f es).stable _ _ _ _ _ _ hR hI (fun _ _ => rfl) (Nat.le_refl _)
  exact ⟨hn, hdf, ρ, _, hM', hS.mono hE fun _ _ _ => rfl⟩
theorem Le.dataClose (c d : Nat) {f : FMap} {es : List (El uI × El .hdl)} (hc : lookB B c = some (.map uI .hdl es)) (hd : lookB B d = some (.obj (rowsO f es))) (hne : c ≠ d) : Le ids K B K ((c, .obj (dataO f)) :: dropB B d) := by
  rintro N C a w ⟨hn, hdf, ρ, F, hM, hS⟩
  obtain ⟨hF, ents, clock, h4, h5, h6⟩ := hM.holds c _ hc
  obtain ⟨G, h1, h2⟩ : rowsR (fun _ => none) f es (Imm C B F w) (F d) w (ρ d) := hM.holds d _ hd
  have hdj : ∀ b, F c b → ¬ F d b := fun b hb hb' => hM.disj c d _ _ b hc hd hne hb hb'
  have hR : (dataO f).R (Imm C B F w) (fun b => F c b ∨ F d b) w (ρ c) := ⟨es, G, h1, fun b => by show (F c b ∨ F d b) ↔ _; rw [hF, h2], fun k hk => hdj _ ((hF _).2 rfl) ((h2 _).2 ⟨k, hk⟩), ents, clock, h4, h5, h6⟩
  obtain ⟨hM', hE⟩ := hM.join (w' := w) (ch := .obj (dataO f)) hc hd hne (fun b => F c b ∨ F d b) (fun _ h => h) (Fr.refl _ _) fun I hI =>
    (dataO f).stable _ _ _ _ _ _ hR hI (fun _ _ => rfl) (Nat.le_refl _)
  exact ⟨hn, hdf, ρ, _, hM', hS.mono hE fun _ _ _ => rfl⟩
end
/-! Images: Copy. -/
theorem tcopyC (t : List Slt) (n : Int) (hn : n = (t.length : Nat)) (es : List (El uI × El uG)) (hR : TabR t es) : Fn Try.prog 46 [vP 1001] (tabB n es) [2001] (vP 2001) (tabB n es ++ [(2001, .obj (tabO t))]) := by
  refine Fn.of tblOK [] _ _ _ _ _ Try.func46 rfl rfl (by kernel_rfl) (by kernel_rfl) rfl (drawOK tblOK) rfl ?_
  refine ⟨_, _, _, _, Fn.ren [(1001, 1002), (2001, 2002)] (mapsCloneG_fn es), ⟨rfl, trivial⟩, rfl, ?_⟩
  refine ⟨rfl, ?_⟩
  refine ⟨rfl, ?_⟩
  refine ⟨_, _, _, (Le.ren 13 2001 rfl).trans (Le.close 2001 [(2001, .cells [.d (.int .i64 n), .mp 2002]), (2002, .map uI uG es)] (o := tabO t) ⟨rfl, rfl, trivial⟩ rfl fun _ _ _ _ h => ⟨es, hR, by rw [← hn]; exact grpR.ren [(2001, 1001), (2002, 1002)] h⟩), rfl, rfl, ⟨rfl, rfl, rfl, trivial⟩, rfl⟩
theorem tcopyO (t : List Slt) : Fn Try.prog 46 [vP 1001] [(1001, .obj (tabO t))] [2001] (vP 2001) [(1001, .obj (tabO t)), (2001, .obj (tabO t))] :=
  Fn.openEx (oy := fun es : { es // TabR t es } => .grp 1001 (tabB (t.length : Nat) es.1)) (by kernel_rfl) (fun _ _ _ _ ⟨es, h, hg⟩ => ⟨⟨es, h⟩, hg⟩) fun es =>
    Fn.close [1002] (tcopyC t _ rfl es.1 es.2) (fun _ _ _ _ h => h) (fun _ _ _ _ h => ⟨es.1, es.2, h⟩) rfl rfl
theorem ccopyC (l : List Int) (hl : l.length ≤ 1000000) : Fn Try.prog 47 [vP 1001] (cntB l) [2001] (vP 2001) (cntB l ++ [(2001, .obj (cntO l))]) := by
  refine Fn.of tblOK [] _ _ _ _ _ Try.func47 rfl rfl (by kernel_rfl) (by kernel_rfl) rfl (drawOK tblOK) rfl ?_
  refine ⟨_, _, _, _, Fn.ren [(1001, 1002), (1002, 2002)] (cloneI_fn l hl), ⟨rfl, trivial⟩, rfl, ?_⟩
  refine ⟨rfl, ?_⟩
  refine ⟨_, _, _, (Le.ren 9 2001 rfl).trans (Le.close 2001 [(2001, .cells [.own 2002]), (2002, .row 3 uI l)] (o := cntO l) ⟨rfl, rfl, trivial⟩ rfl fun _ _ _ _ h => grpR.ren [(2001, 1001), (2002, 1002)] h), rfl, rfl, ⟨rfl, rfl, rfl, trivial⟩, rfl⟩
theorem ccopyO (l : List Int) (hl : l.length ≤ 1000000) : Fn Try.prog 47 [vP 1001] [(1001, .obj (cntO l))] [2001] (vP 2001) [(1001, .obj (cntO l)), (2001, .obj (cntO l))] :=
  Fn.close [1002] (ccopyC l hl) (fun _ _ _ _ h => h) (fun _ _ _ _ h => h) rfl rfl
/-! ### the rows that are there already -/
def fpart (f : FMap) (ks : List Int) : FMap := fun k => if k ∈ ks then f k else none
theorem fpart_nil (f : FMap) : fnone = fpart f [] := funext fun k => (if_neg (fun h => by cases h)).symm
theorem fpart_add {f : FMap} {ks : List Int} {k : Int} {xs : List UInt8} (h : f k = some xs) : fset (fpart f ks) k xs = fpart f (ks ++ [k]) := funext fun j => by
  unfold fset fpart
  by_cases e : j = k
  · subst e
    rw [if_pos rfl, if_pos (List.mem_append_right _ (List.mem_singleton.2 rfl)), h]
  · rw [if_neg e]
    by_cases m : j ∈ ks
    · rw [if_pos m, if_pos (List.mem_append_left _ m)]
    · rw [if_neg m, if_neg]
      intro hm
      rcases List.mem_append.1 hm with hm | hm
      · exact m hm
      · exact e (List.mem_singleton.1 hm)
theorem fpart_all {f : FMap} {ks : List Int} (h : ∀ k, (f k).isSome = true → k ∈ ks) : fpart f ks = f := funext fun k => by
  unfold fpart
  by_cases m : k ∈ ks
  · rw [if_pos m]
  · rw [if_neg m]
    cases e : f k with
    | none => rfl
    | some xs => exact absurd (h k (by rw [e]; rfl)) m
abbrev EnH := Nat × (El uI × El .hdl)
@[reducible] def hK (e : EnH) : Int := e.2.1
def unseenH (seen : List Nat) (l : List EnH) : List EnH := l.filter fun p => !seen.contains p.1
theorem unseenH_lt {seen : List Nat} {l : List EnH} {p : EnH} (hp : p ∈ l) (hn : p.1 ∉ seen) : (unseenH (seen ++ [p.1]) l).length < (unseenH seen l).length := by
  have e : unseenH (seen ++ [p.1]) l = (unseenH seen l).filter fun q => !decide (q.1 = p.1) := by
    unfold unseenH
    rw [List.filter_filter]
    refine List.filter_congr fun q _ => ?_
    by_cases e : q.1 = p.1 <;> simp [e]
  rw [e]
  have hm : p ∈ unseenH seen l := List.mem_filter.2 ⟨hp, by simp [hn]⟩
  exact List.length_filter_lt_length_iff_exists.2 ⟨p, hm, by simp⟩
theorem nodup_keyH {α β : Type} {f : α → β} : ∀ {l : List α}, (l.map f).Nodup → ∀ {p q : α}, p ∈ l → q ∈ l → f p = f q → p = q
  | [], _, _, _, h, _, _ => by cases h
  | a :: l, h, p, q, hp, hq, e => by
    rw [List.map_cons, List.nodup_cons] at h
    rcases List.mem_cons.1 hp with hp | hp <;> rcases List.mem_cons.1 hq with hq | hq
    · rw [hp, hq]
    · exact absurd (by rw [← hp, e]; exact List.mem_map_of_mem hq) h.1
    · exact absurd (by rw [← hq, ← e]; exact List.mem_map_of_mem hp) h.1
    · exact nodup_keyH h.2 hp hq e
structure DnH (l done : List EnH) : Prop where
  sub : ∀ e ∈ done, e ∈ l
  nd : (done.map (·.1)).Nodup
theorem mget_of {es : List (El uI × El .hdl)} (h : KNd es) {p : El uI × El .hdl} (hp : p ∈ es) : mget (ku := uI) (vu := .hdl) es p.1 = some p.2 := by
  induction es with
  | nil => cases hp
  | cons q es ih =>
    have hq := List.pairwise_cons.1 h
    rcases List.mem_cons.1 hp with rfl | hp
    · show (match eqKey uI p.1 p.1 with | true => some p.2 | false => mget (ku := uI) (vu := .hdl) es p.1) = _
      rw [(eqKey_int p.1 p.1).2 rfl]
    · have e := hq.1 p hp
      have e2 : eqKey uI p.1 q.1 = false := by
        rw [Bool.eq_false_iff] at e ⊢
        intro h
        exact e ((eqKey_int q.1 p.1).2 ((eqKey_int p.1 q.1).1 h).symm)
      show (match eqKey uI p.1 q.1 with | true => some q.2 | false => mget (ku := uI) (vu := .hdl) es p.1) = _
      rw [e2]
      exact ih hq.2 hp
theorem mget_key {k : Int} : ∀ {es : List (El uI × El .hdl)}, (mget (ku := uI) (vu := .hdl) es k).isSome = true → k ∈ es.map fun p => (p.1 : Int)
  | [], h => by cases h
  | q :: es, h => by
    by_cases e : eqKey uI (k : El uI) q.1 = true
    · exact List.mem_map.2 ⟨q, List.mem_cons_self .., ((eqKey_int _ _).1 e).symm⟩
    · have e : eqKey uI (k : El uI) q.1 = false := by simpa using e
      have h : (match eqKey uI (k : El uI) q.1 with | true => some q.2 | false => mget (ku := uI) (vu := .hdl) es k).isSome = true := h
      rw [e] at h
      exact List.mem_map.2 (by
        obtain ⟨p, hp, e⟩ := List.mem_map.1 (mget_key (es := es) h)
        exact ⟨p, List.mem_cons_of_mem _ hp, e⟩)
@[reducible] def icC (s : ImS) : List S1 := [.d (.int .i64 s.bits), .ptr 3001 0, .ptr 3002 0, .mp 22, .nils]
@[reducible] def icK : KL := [(0, vP 1001), (3, vP 24), (29, vP 29)]
@[reducible] def icB1 (s : ImS) : BL := [(1001, .cells (imC s.bits)), (1002, .obj (tabO s.t)), (1003, .obj (cntO s.l)), (1004, .obj (dataO s.f)), (24, .cells (icC s)), (3001, .obj (tabO s.t)), (3002, .obj (cntO s.l)), (22, .map uI (.sl .u8) [])]
@[reducible] def icK5 (pk : Int) (ph : El .hdl) : KL := [(0, vP 1001), (3, vP 24), (29, vP 29), (4, vI pk), (5, .c (.one (.d (.hdl ph))))]
@[reducible] def icB5 (s : ImS) (es : List (El uI × El .hdl)) (b clock : Nat) (l done : List EnH) (pb : Nat) (f : FMap) : BL := [(1001, .cells (imC s.bits)), (1002, .obj (tabO s.t)), (1003, .obj (cntO s.l)), (1004, .obj (.mapG b uI .hdl l clock)), (5001, .obj (rowsO s.f es)), (29, .obj (.iterG b clock (done.map (·.1) ++ [pb]) clock)), (24, .cells (icC s)), (3001, .obj (tabO s.t)), (3002, .obj (cntO s.l)), (22, .obj (dataO f))]
@[reducible] def icB2 (s : ImS) : BL := [(1001, .cells (imC s.bits)), (1002, .obj (tabO s.t)), (1003, .obj (cntO s.l)), (1004, .obj (dataO s.f)), (24, .cells (icC s)), (3001, .obj (tabO s.t)), (3002, .obj (cntO s.l)), (22, .obj (dataO s.f))]
@[reducible] def icB3 (s : ImS) (es : List (El uI × El .hdl)) (b clock : Nat) (l : List EnH) : BL := [(1001, .cells (imC s.bits)), (1002, .obj (tabO s.t)), (1003, .obj (cntO s.l)), (1004, .obj (.mapG b uI .hdl l clock)), (5001, .obj (rowsO s.f es)), (24, .cells (icC s)), (3001, .obj (tabO s.t)), (3002, .obj (cntO s.l)), (22, .obj (dataO s.f))]
@[reducible] def icB (s : ImS) (es : List (El uI × El .hdl)) (b clock : Nat) (l done : List EnH) (f : FMap) : BL := [(1001, .cells (imC s.bits)), (1002, .obj (tabO s.t)), (1003, .obj (cntO s.l)), (1004, .obj (.mapG b uI .hdl l clock)), (5001, .obj (rowsO s.f es)), (29, .obj (.iterG b clock (done.map (·.1)) clock)), (24, .cells (icC s)), (3001, .obj (tabO s.t)), (3002, .obj (cntO s.l)), (22, .obj (dataO f))]
@[reducible] def icB4 (s : ImS) (es : List (El uI × El .hdl)) : BL := [(1001, .cells (imC s.bits)), (1002, .obj (tabO s.t)), (1003, .obj (cntO s.l)), (1004, .map uI .hdl es), (5001, .obj (rowsO s.f es)), (24, .cells (icC s)), (3001, .obj (tabO s.t)), (3002, .obj (cntO s.l)), (22, .obj (dataO s.f))]
set_option maxHeartbeats 1000000 in
theorem icopy_fn (s : ImS) (hO : ImOK s) : Fn Try.prog 24 [vP 1001] (imB s) [2001] (vP 2001) (imB s ++ [(2001, .obj (imO s))]) := by
  have hll := hO.ll
  refine Fn.of tblOK [2,3,5,6] _ _ _ _ _ Try.func24 rfl rfl (by kernel_rfl) (by kernel_rfl) rfl (drawOK tblOK) rfl ?_
  refine ⟨_, _, _, _, Fn.ren [(1001, 1002), (2001, 3001)] (tcopyO s.t), ⟨rfl, trivial⟩, rfl, ?_⟩
  refine ⟨_, _, _, _, Fn.ren [(1001, 1003), (2001, 3002)] (ccopyO s.l (by omega)), ⟨rfl, trivial⟩, rfl, ?_⟩
  refine ⟨rfl, ?_⟩
  refine ⟨rfl, ?_⟩
  refine ⟨indep_of (by kernel_rfl), ?_⟩
  show TrQ _ _ _ _ _ _ _
  refine TrQ.le (Le.sub (K' := [(0, vP 1001), (3, vP 24)]) (B' := icB1 s) ⟨rfl, rfl, trivial⟩ ⟨rfl, rfl, rfl, rfl, rfl, rfl, rfl, rfl, trivial⟩) ?_
  refine TrQ.leX (LeX.dataOpen 1004 5001 (f := s.f) rfl rfl) fun es => ?_
  obtain ⟨es, hes⟩ := es
  refine TrQ.leX (LeX.nameMap 1004 rfl) fun x => ?_
  obtain ⟨b, l, clock, hsnd, hrise, hlt⟩ := x
  refine TrQ.go tblOK (drawOK tblOK) [3,5,6] (by kernel_rfl) (Le.refl _ _) ?_
  refine ⟨_, _, fun N => opOK_range (d := 29) rfl Try.underlying74 rfl rfl N, rfl, ?_⟩
  show TrQ _ _ _ _ _ _ _
  have hsnd : l.map (·.2) = es := hsnd
  have hb : (l.map (·.1)).Nodup := hrise.imp fun h => by omega
  have hke : (l.map hK).Nodup := by
    have h1 : (es.map fun p => (p.1 : El uI)).Nodup := List.pairwise_map.2 (hes.nd.imp fun h e => by rw [(eqKey_int _ _).2 e] at h; cases h)
    rw [← hsnd, List.map_map] at h1
    exact h1
  have hmem : ∀ p, p ∈ l → p.2 ∈ es := fun p hp => by rw [← hsnd]; exact List.mem_map_of_mem hp
  refine TrQ.loop tblOK (drawOK tblOK) [3,5,6] (by kernel_rfl) (X := List EnH) (fun _ => icK) (fun done => icB s es b clock l done (fpart s.f (done.map hK))) (DnH l) (fun done => (unseenH (done.map (·.1)) l).length) [] ⟨fun e he => (by cases he), List.nodup_nil⟩ ?_ ?_
  · exact Le.trans (Le.dataEmp 22 rfl) (Le.sub ⟨rfl, rfl, rfl, trivial⟩ ⟨rfl, rfl, rfl, rfl, rfl, rfl, rfl, rfl, rfl, congrArg (fun z => some (Ch.obj (dataO z))) (fpart_nil s.f), trivial⟩)
  intro done hd
  show TrQ _ _ _ _ _ _ _
  refine TrQ.regionX tblOK (by kernel_rfl) ?_
  refine ⟨_, opS_next (c := 1004) (r := 29) rfl rfl rfl rfl (fun p hp => hlt _ (List.mem_map_of_mem hp)) (Nat.le_refl _), fun v e hv => ?_⟩
  rcases hv with ⟨p, hp, hs, rfl, rfl⟩ | ⟨hall, rfl, rfl⟩
  · have hmeas := unseenH_lt hp hs
    have hmg := mget_of hes.nd (hmem p hp)
    have hsome := hes.same (hK p)
    have hmg : mget (ku := uI) (vu := .hdl) es (hK p) = some p.2.2 := hmg
    rw [hmg] at hsome
    obtain ⟨xs, hfx⟩ := Option.isSome_iff_exists.1 hsome.symm
    have hxl := hO.dom _ _ hfx
    have hnk : hK p ∉ done.map hK := fun hm => by
      obtain ⟨q, hq, e⟩ := List.mem_map.1 hm
      have hqp : q = p := nodup_keyH hke (hd.sub q hq) hp e
      exact hs (hqp ▸ List.mem_map_of_mem hq)
    have hno : fpart s.f (done.map hK) (hK p) = none := if_neg hnk
    have hdn : DnH l (done ++ [p]) := by
      refine ⟨fun e he => ?_, ?_⟩
      · rcases List.mem_append.1 he with he | he
        · exact hd.sub e he
        · rw [List.mem_singleton] at he; rw [he]; exact hp
      · rw [List.map_append]
        exact List.nodup_append.2 ⟨hd.nd, by simp, fun x hx y hy => by
          rw [List.map_singleton, List.mem_singleton] at hy
          rw [hy]
          exact fun e => hs (e ▸ hx)⟩
    have hmd : (done ++ [p]).map (·.1) = done.map (·.1) ++ [p.1] := by rw [List.map_append]; rfl
    have hadd : fset (fpart s.f (done.map hK)) (hK p) xs = fpart s.f ((done ++ [p]).map hK) := by rw [fpart_add hfx, List.map_append]; rfl
    refine ⟨_, _, fun N => opOK_entry (c := 1004) (r := 29) rfl rfl rfl rfl hp N, rfl, ?_⟩
    obtain ⟨pb, pk, ph⟩ := p
    show TrQ _ _ _ _ _ _ _
    refine TrQ.le (Le.sub (K' := icK5 pk ph) (B' := icB5 s es b clock l done pb (fpart s.f (done.map hK))) ⟨rfl, rfl, rfl, rfl, rfl, trivial⟩ ⟨rfl, rfl, rfl, rfl, rfl, rfl, rfl, rfl, rfl, rfl, trivial⟩) ?_
    refine TrQ.le (Le.rowOut 5 5001 6001 rfl rfl rfl hmg hfx) ?_
    refine TrQ.go tblOK (drawOK tblOK) [6] (by kernel_rfl) (Le.refl _ _) ?_
    refine ⟨_, _, _, _, Fn.ren [(1001, 6001), (1002, 6002)] (cloneRow_fn xs (by omega)), ⟨rfl, trivial⟩, rfl, ?_⟩
    refine ⟨_, _, fun N => opOK_dataPut (c := 22) (d := 6002) (k := pk) rfl Try.underlying74 Try.underlying3 rfl rfl rfl rfl rfl rfl (by decide) hno N, rfl, ?_⟩
    refine ⟨indep_of (by kernel_rfl), ?_⟩
    refine ⟨done ++ [(pb, pk, ph)], hdn, by rw [hmd]; exact hmeas, Le.trans (Le.rowIn 5001 6001 hfx (by rw [show (pk : Int) = hK (pb, pk, ph) from rfl, hmg]; rfl) rfl rfl (by decide)) (Le.sub ⟨rfl, rfl, rfl, trivial⟩ ⟨rfl, rfl, rfl, rfl, rfl, ?_, rfl, rfl, rfl, congrArg (fun z => some (Ch.obj (dataO z))) hadd, trivial⟩)⟩
    rw [hmd]
    rfl
  · have hfin : fpart s.f (done.map hK) = s.f := fpart_all fun k hk => by
      rw [← hes.same] at hk
      obtain ⟨e0, he0, rfl⟩ := List.mem_map.1 (mget_key hk)
      rw [← hsnd] at he0
      obtain ⟨q, hq, rfl⟩ := List.mem_map.1 he0
      obtain ⟨q', hq', e⟩ := List.mem_map.1 (hall q hq)
      have := nodup_keyH hb (hd.sub q' hq') hq e
      exact this ▸ List.mem_map_of_mem hq'
    show TrQ _ _ _ _ _ _ _
    refine TrQ.go tblOK (drawOK tblOK) [] (by kernel_rfl) (Le.sub (K' := [(0, vP 1001), (3, vP 24)]) (B' := icB3 s es b clock l) ⟨rfl, rfl, trivial⟩ ⟨rfl, rfl, rfl, rfl, rfl, rfl, rfl, rfl, congrArg (fun z => some (Ch.obj (dataO z))) hfin, trivial⟩) ?_
    show TrQ _ _ _ _ _ _ _
    refine TrQ.loop tblOK (drawOK tblOK) [] (by kernel_rfl) (X := Unit) (fun _ => [(3, vP 24), (46, vI 0), (47, vI 0)]) (fun _ => icB3 s es b clock l) (fun _ => True) (fun _ => 0) () trivial ?_ ?_
    · exact Le.sub ⟨rfl, rfl, rfl, trivial⟩ ⟨rfl, rfl, rfl, rfl, rfl, rfl, rfl, rfl, rfl, trivial⟩
    rintro ⟨⟩ -
    refine ⟨fun h => absurd h (by decide), fun _ => ?_⟩
    refine ⟨_, _, _, Le.trans (Le.mapOf 1004 rfl) (Le.trans (Le.sub (K' := [(2, vP 24)]) (B' := icB4 s es) ⟨rfl, trivial⟩ ⟨rfl, rfl, rfl, congrArg (fun z => some (Ch.map uI .hdl z)) hsnd, rfl, rfl, rfl, rfl, rfl, trivial⟩) (Le.trans (Le.dataClose 1004 5001 (f := s.f) rfl rfl (by decide)) (Le.trans (Le.sub (K' := [(2, vP 24)]) (B' := icB2 s) ⟨rfl, trivial⟩ ⟨rfl, rfl, rfl, rfl, rfl, rfl, rfl, rfl, trivial⟩) (Le.trans (Le.ren 24 2001 rfl) (Le.close 2001 [(2001, .cells (icC s)), (3001, .obj (tabO s.t)), (3002, .obj (cntO s.l)), (22, .obj (dataO s.f))] (o := imO s) ⟨rfl, rfl, rfl, rfl, trivial⟩ rfl fun _ _ _ _ h => grpR.ren [(2001, 1001), (3001, 1002), (3002, 1003), (22, 1004)] h))))), rfl, rfl, ⟨rfl, rfl, rfl, rfl, rfl, trivial⟩, rfl⟩
end Go.Proofs.Ytbcngglcaeehbaa
