/-
  safe.Begin: the steps of a save.
-/
import Derived.Test.YthghcdddambaeaaCp
import Derived.Test.YthghcdddambaeaaGx
set_option linter.unusedVariables false
set_option linter.unusedSimpArgs false
set_option maxRecDepth 10000
namespace Go.Proofs.Ythghcdddambaeaa
open Go.RowKit Go.Proofs
/-- A step: a flush; a write. -/
abbrev SvS := Option (Int × List UInt8)
inductive StR (L : List (Nat × Ob)) (s2 : Nat) : El .fn → SvS → Prop
  | f : StR L s2 (fnF s2) none
  | w {a b : Nat} {at_ : Int} {x : List UInt8} : pget L a = some (cellO (.int .i64 at_)) → pget L b = some (cellO (.lst .u8 x)) → StR L s2 (fnW s2 a b) (some (at_, x))
def StsR (L : List (Nat × Ob)) (s2 : Nat) : List (El .fn) → List SvS → Prop
  | [], [] => True
  | f :: l, t :: m => StR L s2 f t ∧ StsR L s2 l m
  | _, _ => False
theorem pget_key {a : Nat} {o : Ob} : ∀ {L : List (Nat × Ob)}, pget L a = some o → a ∈ L.map (·.1)
  | [], h => by cases h
  | (b, q) :: L, h => by
    unfold pget at h
    split at h
    · rename_i e; rw [List.map_cons]; exact List.mem_cons.2 (.inl e.symm)
    · rw [List.map_cons]; exact List.mem_cons_of_mem _ (pget_key h)
theorem pget_more {a b : Nat} {o q : Ob} {L : List (Nat × Ob)} (h : pget L a = some o) (hn : b ∉ L.map (·.1)) : pget ((b, q) :: L) a = some o := by
  have hne : ¬ b = a := fun e => hn (e ▸ pget_key h)
  unfold pget
  rw [if_neg hne]
  exact h
theorem StR.more {L : List (Nat × Ob)} {s2 b : Nat} {q : Ob} (hn : b ∉ L.map (·.1)) {f : El .fn} {t : SvS} (h : StR L s2 f t) : StR ((b, q) :: L) s2 f t := by
  cases h with
  | f => exact .f
  | w h1 h2 => exact .w (pget_more h1 hn) (pget_more h2 hn)
theorem StsR.more {L : List (Nat × Ob)} {s2 b : Nat} {q : Ob} (hn : b ∉ L.map (·.1)) : ∀ {l : List (El .fn)} {m : List SvS}, StsR L s2 l m → StsR ((b, q) :: L) s2 l m
  | [], [], _ => trivial
  | f :: l, t :: m, h => ⟨h.1.more hn, StsR.more hn h.2⟩
  | [], _ :: _, h => h.elim
  | _ :: _, [], h => h.elim
theorem StsR.snoc {L : List (Nat × Ob)} {s2 : Nat} {f : El .fn} {t : SvS} (h2 : StR L s2 f t) : ∀ {l : List (El .fn)} {m : List SvS}, StsR L s2 l m → StsR L s2 (l ++ [f]) (m ++ [t])
  | [], [], _ => ⟨h2, trivial⟩
  | f :: l, t :: m, h => ⟨h.1, StsR.snoc h2 h.2⟩
  | [], _ :: _, h => h.elim
  | _ :: _, [], h => h.elim
theorem StsR.len {L : List (Nat × Ob)} {s2 : Nat} : ∀ {l : List (El .fn)} {m : List SvS}, StsR L s2 l m → l.length = m.length
  | [], [], _ => rfl
  | f :: l, t :: m, h => by rw [List.length_cons, List.length_cons, StsR.len h.2]
  | [], _ :: _, h => h.elim
  | _ :: _, [], h => h.elim
theorem cellO_anch (x : D) : (cellO x).anch := fun I F w p h => (h.1 _).2 rfl
/-- What is known of a saver's boxes and steps. -/
structure SvK (L : List (Nat × Ob)) (s2 s : Nat) (sts : List (El .fn)) (stps : List SvS) : Prop where
  an : ∀ p ∈ L, p.2.anch
  hp : pget L s2 = some (cellO (.adr (some s)))
  hr : StsR L s2 sts stps
theorem SvK.write {L : List (Nat × Ob)} {s2 s a b : Nat} {sts : List (El .fn)} {stps : List SvS} {at_ : Int} {x : List UInt8} (h : SvK L s2 s sts stps) (hn : (((b, cellO (.lst .u8 x)) :: (a, cellO (.int .i64 at_)) :: L).map (·.1)).Nodup) :
    SvK ((b, cellO (.lst .u8 x)) :: (a, cellO (.int .i64 at_)) :: L) s2 s (sts ++ [fnW s2 a b]) (stps ++ [some (at_, x)]) := by
  rw [List.map_cons, List.nodup_cons, List.map_cons, List.nodup_cons] at hn
  obtain ⟨n1, n2, n3⟩ := hn
  rw [List.mem_cons, not_or] at n1
  have hb : b ∉ ((a, cellO (.int .i64 at_)) :: L).map (·.1) := by
    rw [List.map_cons, List.mem_cons, not_or]
    exact n1
  refine ⟨fun p hp => ?_, pget_more (pget_more h.hp n2) hb, StsR.snoc (.w (pget_more ?_ hb) ?_) ((h.hr.more n2).more hb)⟩
  · rcases List.mem_cons.1 hp with rfl | hp
    · exact cellO_anch _
    · rcases List.mem_cons.1 hp with rfl | hp
      · exact cellO_anch _
      · exact h.an p hp
  · unfold pget; rw [if_pos rfl]
  · unfold pget; rw [if_pos rfl]
theorem SvK.flush {L : List (Nat × Ob)} {s2 s : Nat} {sts : List (El .fn)} {stps : List SvS} (h : SvK L s2 s sts stps) : SvK L s2 s (sts ++ [fnF s2]) (stps ++ [none]) := ⟨h.an, h.hp, h.hr.snoc .f⟩
/-! ### the saver -/
@[reducible] def svBl (e : Int) (sts : List (El .fn)) (L : List (Nat × Ob)) : BL := [(1001, .cells [.d (.lst .fn sts), .d (.int .i64 e)]), (1005, .obj (.pool L))]
def svO (s : Nat) (stps : List SvS) (e : Int) : Ob where
  R := fun I F w p => ∃ (s2 : Nat) (sts : List (El .fn)) (L : List (Nat × Ob)), SvK L s2 s sts stps ∧ grpR 1001 (svBl e sts L) I F w p
  stable := fun I F w I' w' p ⟨s2, sts, L, hk, h⟩ he hF hz => ⟨s2, sts, L, hk, (Ob.grp 1001 (svBl e sts L)).stable I F w I' w' p h he hF hz⟩
def chunkS (b : List UInt8) (j : Nat) : List UInt8 := laid (List.replicate 16 0) 0 16 (b.drop (16 * j))
def stW (b : List UInt8) (k area : Int) : Nat → List SvS
  | 0 => []
  | j + 1 => stW b k area j ++ [some (2 + k * area + (j : Nat), chunkS b j)]
theorem stW_len (b : List UInt8) (k area : Int) : ∀ j, (stW b k area j).length = j
  | 0 => rfl
  | j + 1 => by rw [stW, List.length_append, stW_len]; rfl
def cntS (b : List UInt8) : Nat := (b.length + 15) / 16
def hdrW (b : List UInt8) (n : Int) : List UInt8 := sealB (encNs 4 [(n + 1).toNat, b.length, (sumO b).toNat])
def stpsB (b : List UInt8) (k area n : Int) : List SvS := stW b k area (cntS b) ++ [none] ++ [some (k, hdrW b n)] ++ [none]
@[reducible] def bgK (b : List UInt8) (s2 : Nat) (n k : Int) (j : Nat) : KL := [(1, vL .u8 b), (2, vAd s2), (8, vI n), (9, vI k), (10, vP 10), (11, .c (.one (.clo 81 [.d (.adr (some s2))]))), (12, .c (.one (.clo 83 [.p 10 0, .d (.adr (some s2))]))), (13, vI (16 * (j : Nat)))]
@[reducible] def bgB (M : SPool) (d : Nat) (sts : List (El .fn)) (L : List (Nat × Ob)) : BL := [(10, .cells [.ptr 37 0]), (37, .cells [.own d, .d (.int .i64 0)]), (d, .row 124 .fn sts), (1005, .obj (.pool L)), (1003, .obj (.pool (poolS M)))]
set_option maxHeartbeats 4000000 in
theorem begin_fn {m : StM} (ho : StOK m) (h2 : 2 ≤ m.n) {s : Nat} {M : SPool} (hM : sget M s = some m) (b : List UInt8) (hb : (b.length : Int) ≤ areaS m.n * 16) (h30 : (newJ m 2).2.2 < 1073741824) (h31 : 0 ≤ (newJ m 2).2.2) (hat : -1 ≤ (newJ m 2).1 ∧ (newJ m 2).1 ≤ 1) :
    Fn Try.prog 37 [vAd s, vL .u8 b] [(1003, .obj (.pool (poolS M)))] [2001] (.tup [.one (.ptr 2001 0), vErr 0]) [(1003, .obj (.pool (poolS M))), (2001, .obj (svO s (stpsB b (((newJ m 2).1 + 1) % 2) (areaS m.n) (newJ m 2).2.2) 0))] := by
  obtain ⟨a0, a1⟩ := area_ok h2 ho.n1
  have hn1 := ho.n1
  have hbl : b.length ≤ 1000000 := by omega
  refine Fn.of tblOK [8,18,20] _ _ _ _ _ Try.func37 rfl rfl (by kernel_rfl) (by kernel_rfl) rfl (drawOK tblOK) rfl ?_
  refine ⟨rfl, ?_⟩
  refine ⟨_, _, _, _, newest_fn ho h2 hM, ⟨rfl, trivial⟩, rfl, ?_⟩
  generalize newJ m 2 = nw at h30 h31 hat ⊢
  obtain ⟨at0, xb, n⟩ := nw
  simp only at h30 h31 hat ⊢
  refine ⟨_, _, _, _, poolN hM, ⟨rfl, trivial⟩, rfl, ?_⟩
  refine ⟨_, _, _, _, most_fn m.n ho.n0 ho.n1, trivial, rfl, ?_⟩
  refine ⟨fun c => ?_, fun _ => ?_⟩
  · have c : areaS m.n * 16 < (b.length : Int) := of_decide_eq_true c
    omega
  refine ⟨fun c => absurd (of_decide_eq_true c) (by omega), fun _ => ?_⟩
  have q1 : -9223372036854775808 ≤ at0 + 1 ∧ at0 + 1 ≤ 9223372036854775807 := by omega
  have q2 : 0 ≤ at0 + 1 ∧ (0 : Int) < 2 := by omega
  have q3 : -9223372036854775808 ≤ (at0 + 1) % 2 ∧ (at0 + 1) % 2 ≤ 9223372036854775807 := by omega
  refine ⟨q1, q2, q3, ?_⟩
  have hk : (at0 + 1) % 2 = 0 ∨ (at0 + 1) % 2 = 1 := by omega
  generalize (at0 + 1) % 2 = k at hk ⊢
  refine ⟨rfl, ?_⟩
  refine ⟨rfl, ?_⟩
  show TrQ _ _ _ _ _ _ _
  refine TrQ.le (Le.emp 1005 rfl) ?_
  refine TrQ.le (Le.nilc 37 0 3006 124 .fn rfl rfl rfl) ?_
  refine TrQ.leX (LeX.box 2 2 1005 rfl rfl (by decide) rfl) fun s2 => ?_
  refine TrQ.go tblOK (drawOK tblOK) [] (by kernel_rfl) (Le.refl _ _) ?_
  show TrQ _ _ _ _ _ _ _
  refine TrQ.loop tblOK (drawOK tblOK) [12, 15] (by kernel_rfl) (X := Nat × List (El .fn) × List (Nat × Ob)) (fun x => bgK b s2 n k x.1) (fun x => bgB M 3006 x.2.1 x.2.2) (fun x => x.1 ≤ cntS b ∧ SvK x.2.2 s2 s x.2.1 (stW b k (areaS m.n) x.1)) (fun x => cntS b - x.1) (0, [], [(s2, cellO (.adr (some s)))]) ⟨Nat.zero_le _, fun p hp => (by rw [List.mem_singleton] at hp; rw [hp]; exact cellO_anch _), by unfold pget; rw [if_pos rfl], trivial⟩ ?_ ?_
  · exact Le.sub ⟨rfl, rfl, rfl, rfl, rfl, rfl, rfl, rfl, trivial⟩ ⟨rfl, rfl, rfl, rfl, rfl, trivial⟩
  rintro ⟨j, sts, L⟩ ⟨hj, hK⟩
  have hj : j ≤ cntS b := hj
  have hK : SvK L s2 s sts (stW b k (areaS m.n) j) := hK
  have hlen := hK.hr.len
  rw [stW_len] at hlen
  refine ⟨fun hc => ?_, fun hc => ?_⟩
  · have hc : (16 * (j : Nat) : Int) < (b.length : Nat) := of_decide_eq_true hc
    have hj1 : j < cntS b := by unfold cntS; omega
    refine ⟨⟨rfl, by decide, by decide⟩, rfl, ?_⟩
    have q5 : 0 ≤ (16 * (j : Nat) : Int) ∧ (16 * (j : Nat) : Int) ≤ (b.length : Nat) := by omega
    refine ⟨q5, ?_⟩
    refine ⟨by decide, ?_⟩
    show TrQ _ _ _ _ _ _ _
    refine TrQ.le (Le.frz 46 rfl) ?_
    refine TrQ.regionX tblOK (by kernel_rfl) ?_
    refine ⟨_, _, fun N => opOK_loadAdr (q := 1005) rfl Try.underlying71 rfl rfl rfl hK.hp N, rfl, ?_⟩
    refine ⟨_, _, _, fun g => _, fun g => _, (poolN hM).x, ⟨rfl, trivial⟩, rfl, fun _ => rfl, fun _ => ?_⟩
    refine ⟨_, _, _, fun g => _, fun g => _, (area_fn m.n ho.n0 ho.n1).x, trivial, rfl, fun _ => rfl, fun _ => ?_⟩
    have q6 : -9223372036854775808 ≤ k * areaS m.n ∧ k * areaS m.n ≤ 9223372036854775807 := by rcases hk with rfl | rfl <;> omega
    have q7 : -9223372036854775808 ≤ 2 + k * areaS m.n ∧ 2 + k * areaS m.n ≤ 9223372036854775807 := by rcases hk with rfl | rfl <;> omega
    have q8 : 0 ≤ (16 * (j : Nat) : Int) ∧ (0 : Int) < 16 := by omega
    have q9 : -9223372036854775808 ≤ (16 * (j : Nat) : Int) / 16 ∧ (16 * (j : Nat) : Int) / 16 ≤ 9223372036854775807 := by omega
    have e9 : (16 * (j : Nat) : Int) / 16 = (j : Nat) := by omega
    have q10 : -9223372036854775808 ≤ 2 + k * areaS m.n + (16 * (j : Nat) : Int) / 16 ∧ 2 + k * areaS m.n + (16 * (j : Nat) : Int) / 16 ≤ 9223372036854775807 := by rcases hk with rfl | rfl <;> omega
    refine ⟨q6, q7, q8, q9, q10, ?_⟩
    refine ⟨_, _, _, fun g => _, fun g => _, FnX.ren [(1001, 10), (1002, 37), (1006, 3006), (2006, 4006)] (begin2_fn (2 + k * areaS m.n + (16 * (j : Nat) : Int) / 16) _ s2 0 sts L (by omega)), ⟨rfl, rfl, rfl, rfl, trivial⟩, rfl, fun _ => rfl, fun g => ?_⟩
    show TrQ _ _ _ _ _ _ _
    refine TrQ.leX (LeX.poolNd 1005 ?_ rfl) fun hnd => ?_
    · intro p hp
      rcases List.mem_cons.1 hp with rfl | hp
      · exact cellO_anch _
      · rcases List.mem_cons.1 hp with rfl | hp
        · exact cellO_anch _
        · exact hK.an p hp
    have hX : laid (List.replicate (Int.toNat 16) 0) 0 (List.replicate (Int.toNat 16) (0 : UInt8)).length (List.drop (16 * (j : Nat) : Int).toNat (List.take b.length b)) = chunkS b j := by
      unfold chunkS
      rw [List.take_length, show (16 * (j : Nat) : Int).toNat = 16 * j by omega]
      rfl
    have hK3 : SvK ((g.2, cellO (.lst .u8 (chunkS b j))) :: (g.1, cellO (.int .i64 (2 + k * areaS m.n + (16 * (j : Nat) : Int) / 16))) :: L) s2 s (sts ++ [fnW s2 g.1 g.2]) (stW b k (areaS m.n) (j + 1)) := by
      have h5 := hK.write (a := g.1) (b := g.2) (at_ := 2 + k * areaS m.n + (16 * (j : Nat) : Int) / 16) (x := chunkS b j) (by rw [← hX]; exact hnd.down)
      have e10 : (some (2 + k * areaS m.n + (16 * (j : Nat) : Int) / 16, chunkS b j) : SvS) = some (2 + k * areaS m.n + (j : Nat), chunkS b j) := by rw [e9]
      rw [e10] at h5
      exact h5
    have q11 : -9223372036854775808 ≤ (16 * (j : Nat) : Int) + 16 ∧ (16 * (j : Nat) : Int) + 16 ≤ 9223372036854775807 := by omega
    refine TrQ.go tblOK (drawOK tblOK) [] (by kernel_rfl) (Le.refl _ _) ?_
    refine ⟨q11, ?_⟩
    refine ⟨(j + 1, sts ++ [fnW s2 g.1 g.2], (g.2, cellO (.lst .u8 (chunkS b j))) :: (g.1, cellO (.int .i64 (2 + k * areaS m.n + (16 * (j : Nat) : Int) / 16))) :: L), ⟨hj1, hK3⟩, by show cntS b - (j + 1) < cntS b - j; omega, Le.trans (Le.sub (K' := bgK b s2 n k (j + 1)) (B' := bgB M 4006 (sts ++ [fnW s2 g.1 g.2]) ((g.2, cellO (.lst .u8 (chunkS b j))) :: (g.1, cellO (.int .i64 (2 + k * areaS m.n + (16 * (j : Nat) : Int) / 16))) :: L)) ⟨rfl, rfl, rfl, rfl, rfl, rfl, rfl, ?_, trivial⟩ ⟨rfl, rfl, rfl, ?_, rfl, trivial⟩) (Le.ren 4006 3006 rfl)⟩
    · show (16 * (j : Nat) : Int) + 16 = 16 * ((j + 1 : Nat) : Int)
      omega
    · rw [← hX]
      rfl
  · have hc : ¬ (16 * (j : Nat) : Int) < (b.length : Nat) := of_decide_eq_false hc
    have hj1 : j = cntS b := by unfold cntS at hj ⊢; omega
    subst hj1
    have hs := sumO_ok b
    have hcn : cntS b ≤ 100000 := by unfold cntS; omega
    have r1 : -9223372036854775808 ≤ n + 1 ∧ n + 1 ≤ 9223372036854775807 := by omega
    refine ⟨r1, ?_⟩
    refine ⟨_, _, _, _, sumOf_fn [b] (by simp) (fun y hy => by rw [List.mem_singleton] at hy; rw [hy]; omega), trivial, rfl, ?_⟩
    have e1 : ([b] : List (List UInt8)).flatten = b := by simp
    rw [e1]
    have e2 : ([n + 1, ((b.length : Nat) : Int), sumO b] : List Int) = intsL [(n + 1).toNat, b.length, (sumO b).toNat] := by
      show _ = [(((n + 1).toNat : Nat) : Int), ((b.length : Nat) : Int), (((sumO b).toNat : Nat) : Int)]
      rw [show (((n + 1).toNat : Nat) : Int) = n + 1 by omega, show (((sumO b).toNat : Nat) : Int) = sumO b by omega]
    refine ⟨_, _, _, _, Fn.arg (Fn.ren [(1002, 5002)] (put_nil 4 [(n + 1).toNat, b.length, (sumO b).toNat] (by unfold W; omega) (fun x hx => by
      simp only [List.mem_cons, List.not_mem_nil, or_false] at hx
      rcases hx with rfl | rfl | rfl <;> omega) (by simp))) ⟨rfl, rfl, e2, trivial⟩, trivial, rfl, ?_⟩
    have hb1 : sts.length + 1 ≤ 4294967296 := by omega
    refine ⟨hb1, rfl, rfl, ?_⟩
    show TrQ _ _ _ _ _ _ _
    refine TrQ.le (Le.frz 5002 rfl) ?_
    refine TrQ.regionX tblOK (by kernel_rfl) ?_
    have hhl : (encNs 4 [(n + 1).toNat, b.length, (sumO b).toNat]).length ≤ 1000000 := by rw [encNs_length]; simp
    refine ⟨_, _, _, fun g => _, fun g => _, (seal_fn (encNs 4 [(n + 1).toNat, b.length, (sumO b).toNat]) hhl).x, trivial, rfl, fun _ => rfl, fun _ => ?_⟩
    refine ⟨_, _, _, fun g => _, fun g => _, FnX.ren [(1001, 10), (1002, 37), (1006, 83), (2006, 4006)] (begin2_fn k (hdrW b n) s2 0 (sts ++ [fnF s2]) L (by rw [List.length_append]; simp; omega)), ⟨rfl, rfl, rfl, rfl, trivial⟩, rfl, fun _ => rfl, fun g => ?_⟩
    have hb2 : (sts ++ [fnF s2] ++ [fnW s2 g.1 g.2]).length + 1 ≤ 4294967296 := by simp; omega
    refine ⟨hb2, rfl, rfl, ?_⟩
    show TrQ _ _ _ _ _ _ _
    refine TrQ.leX (LeX.poolNd 1005 ?_ rfl) fun hnd => ?_
    · intro p hp
      rcases List.mem_cons.1 hp with rfl | hp
      · exact cellO_anch _
      · rcases List.mem_cons.1 hp with rfl | hp
        · exact cellO_anch _
        · exact hK.an p hp
    have hK4 := (hK.flush.write (a := g.1) (b := g.2) (at_ := k) (x := hdrW b n) hnd.down).flush
    refine TrQ.go tblOK (drawOK tblOK) [] (by kernel_rfl) (Le.frz 98 rfl) ?_
    exact ⟨_, _, _, (Le.ren 37 2001 rfl).trans (Le.close 2001 [(2001, .cells [.d (.lst .fn (sts ++ [fnF s2] ++ [fnW s2 g.1 g.2] ++ [fnF s2])), .d (.int .i64 0)]), (1005, .obj (.pool ((g.2, cellO (.lst .u8 (hdrW b n))) :: (g.1, cellO (.int .i64 k)) :: L)))] (o := svO s (stpsB b k (areaS m.n) n) 0) ⟨rfl, rfl, trivial⟩ rfl fun I F w p h => ⟨s2, _, _, hK4, grpR.ren [(2001, 1001)] h⟩), rfl, ⟨rfl, rfl, trivial⟩, ⟨rfl, rfl, trivial⟩, rfl⟩
end Go.Proofs.Ythghcdddambaeaa
