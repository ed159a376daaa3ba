/-
  A saver's calls: Left, Step.
-/
import Derived.Test.YthghcdddambaeaaBg
import Derived.Test.YthghcdddambaeaaMo
set_option linter.unusedVariables false
set_option linter.unusedSimpArgs false
set_option maxRecDepth 10000
namespace Go.Proofs.Ythghcdddambaeaa
open Go.RowKit Go.Proofs
/-- An object that is one of several, whichever. -/
theorem Fn.openEx {P : Program} {f : FuncId} {args : List SV} {c : Nat} {Bi : BL} {nw : List Nat} {res : SV} {Bo : BL} {o : Ob} {Y : Type} {oy : Y → Ob} (hc : callable P f = true) (ho : ∀ I F w p, o.R I F w p → ∃ y, (oy y).R I F w p)
    (h : ∀ y, Fn P f args ((c, .obj (oy y)) :: Bi) nw res Bo) : Fn P f args ((c, .obj o) :: Bi) nw res Bo := by
  refine ⟨hc, fun ρ F I w vals a1 a2 a3 a4 a5 a6 => ?_⟩
  have hl : lookB ((c, Ch.obj o) :: Bi) c = some (.obj o) := by rw [lookB_cons, if_pos rfl]
  obtain ⟨y, hy⟩ := ho _ _ _ _ (a2 c _ hl)
  have key : ∀ d ch, lookB ((c, Ch.obj (oy y)) :: Bi) d = some ch → (d = c ∧ ch = .obj (oy y)) ∨ lookB ((c, Ch.obj o) :: Bi) d = some ch := fun d ch hd => by
    rw [lookB_cons] at hd
    split at hd
    · rename_i e; injection hd with hd; exact .inl ⟨e.symm, hd.symm⟩
    · rename_i e; exact .inr (by rw [lookB_cons, if_neg e]; exact hd)
  have key2 : ∀ d ch, lookB ((c, Ch.obj (oy y)) :: Bi) d = some ch → ∃ ch0, lookB ((c, Ch.obj o) :: Bi) d = some ch0 := fun d ch hd => by
    rcases key d ch hd with ⟨e, _⟩ | h
    · rw [e]
      exact ⟨_, hl⟩
    · exact ⟨_, h⟩
  have key3 : ∀ d ch, lookB ((c, Ch.obj o) :: Bi) d = some ch → ∃ ch0, lookB ((c, Ch.obj (oy y)) :: Bi) d = some ch0 := fun d ch hd => by
    rw [lookB_cons] at hd ⊢
    split at hd
    · rename_i e; exact ⟨_, by rw [if_pos e]⟩
    · rename_i e; exact ⟨ch, by rw [if_neg e]; exact hd⟩
  have hF : ∀ b, (∃ d ch, lookB ((c, Ch.obj (oy y)) :: Bi) d = some ch ∧ F d b) ↔ ∃ d ch, lookB ((c, Ch.obj o) :: Bi) d = some ch ∧ F d b := fun b =>
    ⟨fun ⟨d, ch, h1, h2⟩ => let ⟨ch0, h⟩ := key2 d ch h1; ⟨d, ch0, h, h2⟩, fun ⟨d, ch, h1, h2⟩ => let ⟨ch0, h⟩ := key3 d ch h1; ⟨d, ch0, h, h2⟩⟩
  refine ((h y).2 ρ F I w vals a1 (fun d ch hd => ?_) (fun d ch hd b hb => ?_) (fun d d' ch ch' b h1 h2 => ?_) a5 a6).mono ?_
  · rcases key d ch hd with ⟨rfl, rfl⟩ | h
    · exact hy
    · exact a2 d ch h
  · obtain ⟨ch0, h⟩ := key2 d ch hd
    exact a3 d ch0 h b hb
  · obtain ⟨c0, g1⟩ := key2 d ch h1
    obtain ⟨c1, g2⟩ := key2 d' ch' h2
    exact a4 d d' c0 c1 b g1 g2
  · rintro e w' ⟨x, ρ', F', r1, r2, r3, I', r4, r5, r6, r7, r8, r9⟩
    refine ⟨x, ρ', F', r1, r2.mono fun b _ hb => (hF b).1 hb, r3, I', r4, fun b hb => ⟨(r5 b hb).1, (r5 b hb).2.imp id (Or.imp (hF b).1 id)⟩, r6, fun d ch hd b hb => ?_, r8, r9⟩
    obtain ⟨g1, g2, g3⟩ := r7 d ch hd b hb
    exact ⟨g1, g2, g3.imp (hF b).1 id⟩
theorem svOpen {f : FuncId} {args : List SV} {s : Nat} {stps stps' : List SvS} {e e' : Int} {Bi Bo : BL} {res : SV} (hc : callable Try.prog f = true)
    (h : ∀ (s2 : Nat) (sts : List (El .fn)) (L : List (Nat × Ob)), SvK L s2 s sts stps → ∃ (sts' : List (El .fn)), SvK L s2 s sts' stps' ∧ Fn Try.prog f args (svBl e sts L ++ Bi) [] res (svBl e' sts' L ++ Bo))
    (h1 : ∀ (sts : List (El .fn)) (L : List (Nat × Ob)), closeIn 1001 [1005] args (svBl e sts L) Bi [] [] = true) (h2 : ∀ (sts : List (El .fn)) (L : List (Nat × Ob)), closeOut 1001 [1005] res (svBl e' sts L) Bo = true) :
    Fn Try.prog f args ((1001, .obj (svO s stps e)) :: Bi) [] res ((1001, .obj (svO s stps' e')) :: Bo) := by
  refine Fn.openEx (Y := { y : Nat × List (El .fn) × List (Nat × Ob) // SvK y.2.2 y.1 s y.2.1 stps }) (oy := fun y => Ob.grp 1001 (svBl e y.1.2.1 y.1.2.2)) hc (fun I F w p ⟨s2, sts, L, hk, hg⟩ => ⟨⟨(s2, sts, L), hk⟩, hg⟩) fun ⟨⟨s2, sts, L⟩, hk⟩ => ?_
  obtain ⟨sts', hk', hf⟩ := h s2 sts L hk
  exact (FnX.close (Bl := svBl e sts L) (Bl' := fun _ : Unit => svBl e' sts' L) (Bo := fun _ => Bo) (o := Ob.grp 1001 (svBl e sts L)) (o' := fun _ => svO s stps' e') [1005] hf.x (fun _ _ _ _ h => h) (fun _ I F w p hg => ⟨s2, sts', L, hk', hg⟩) (h1 sts L) (fun _ => h2 sts' L)).fn
theorem svLeft_fn (s : Nat) (stps : List SvS) (e : Int) : Fn Try.prog 38 [vP 1001] [(1001, .obj (svO s stps e))] [] (vI (stps.length : Nat)) [(1001, .obj (svO s stps e))] := by
  refine svOpen (Bi := []) (Bo := []) (by kernel_rfl) (fun s2 sts L hk => ⟨sts, hk, ?_⟩) (fun _ _ => rfl) fun _ _ => rfl
  refine Fn.of tblOK [] _ _ _ _ _ Try.func38 rfl rfl (by kernel_rfl) (by kernel_rfl) rfl (drawOK tblOK) rfl ?_
  exact ⟨_, _, _, Le.refl _ _, rfl, congrArg (fun n : Nat => (n : Int)) hk.hr.len, ⟨rfl, rfl, trivial⟩, rfl⟩
def runSt (m : StM) : SvS → StM × Int
  | none => (m.flush, 0)
  | some (a, x) => m.write a x
theorem svNil_fn (s : Nat) (e : Int) : Fn Try.prog 39 [vP 1001] [(1001, .obj (svO s [] e))] [] (.tup [.one (.d (.bool (decide (e = 0)))), vErr e]) [(1001, .obj (svO s [] e))] := by
  refine svOpen (Bi := []) (Bo := []) (by kernel_rfl) (fun s2 sts L hk => ⟨sts, hk, ?_⟩) (fun _ _ => rfl) fun _ _ => rfl
  have hs : sts = [] := by
    have := hk.hr.len
    exact List.eq_nil_of_length_eq_zero this
  subst hs
  refine Fn.of tblOK [] _ _ _ _ _ Try.func39 rfl rfl (by kernel_rfl) (by kernel_rfl) rfl (drawOK tblOK) rfl ?_
  refine ⟨fun _ => ?_, fun h => absurd h (by decide)⟩
  refine ⟨rfl, ?_⟩
  exact ⟨_, _, _, Le.refl _ _, rfl, ⟨rfl, rfl, trivial⟩, ⟨rfl, rfl, trivial⟩, rfl⟩
theorem drop_one {α : Type} (f : α) (l : List α) : List.drop 1 (List.take (f :: l).length (f :: l)) = l := by rw [List.take_length]; rfl
set_option maxHeartbeats 1000000 in
theorem svStep_fn {s : Nat} {st : SvS} {rest : List SvS} {M : SPool} {m : StM} (hM : sget M s = some m) (ho : StOK m) (hl : m.loose.length ≤ 1073741824) (hx : ∀ a x, st = some (a, x) → x.length ≤ 1073741824) (he : (runSt m st).2 = 0) :
    Fn Try.prog 39 [vP 1001] [(1001, .obj (svO s (st :: rest) 0)), (1003, .obj (.pool (poolS M)))] [] (.tup [.one (.d (.bool (decide ((rest.length : Int) = 0)))), vErr 0]) [(1001, .obj (svO s rest 0)), (1003, .obj (.pool (poolS (sset M s (runSt m st).1))))] := by
  refine svOpen (Bi := [(1003, .obj (.pool (poolS M)))]) (Bo := [(1003, .obj (.pool (poolS (sset M s (runSt m st).1))))]) (by kernel_rfl) (fun s2 sts L hk => ?_) (fun _ _ => rfl) fun _ _ => rfl
  match sts, hk with
  | [], hk => exact hk.hr.elim
  | f :: l, hk =>
    refine ⟨l, ⟨hk.an, hk.hp, hk.hr.2⟩, ?_⟩
    have hlen := hk.hr.2.len
    have hst := hk.hr.1
    cases hst with
    | f =>
      refine Fn.of tblOK [] _ _ _ _ _ Try.func39 rfl rfl (by kernel_rfl) (by kernel_rfl) rfl (drawOK tblOK) rfl ?_
      refine ⟨fun c => ?_, fun _ => ?_⟩
      · have c : (((fnF s2 :: l).length : Nat) : Int) = 0 := of_decide_eq_true c
        simp at c
        omega
      refine ⟨by decide, fnF s2, rfl, ?_⟩
      refine ⟨_, _, _, _, flush1_fn hk.hp hM, ⟨rfl, rfl, trivial⟩, rfl, ?_⟩
      have q : 0 ≤ (1 : Int) ∧ (1 : Int) ≤ (((fnF s2 :: l).length : Nat) : Int) := by rw [List.length_cons]; omega
      refine ⟨q, ?_⟩
      refine ⟨fun h => absurd h (by decide), fun _ => ?_⟩
      refine ⟨fun _ => ?_, fun h => absurd h (by decide)⟩
      refine ⟨rfl, ?_⟩
      refine ⟨_, _, _, Le.refl _ _, rfl, ⟨?_, rfl, trivial⟩, ⟨?_, rfl, rfl, trivial⟩, rfl⟩
      · show decide (((List.drop 1 (List.take (fnF s2 :: l).length (fnF s2 :: l))).length : Int) = 0) = _
        rw [drop_one, hlen]
      · show some (Ch.cells [.d (.lst .fn (List.drop 1 (List.take (fnF s2 :: l).length (fnF s2 :: l)))), .d (.int .i64 0)]) = _
        rw [drop_one]
    | @w a b at_ x h4 h5 =>
      have he : (m.write at_ x).2 = 0 := he
      have hw := write1_fn hk.hp h4 h5 hM ho (hx at_ x rfl) hl
      rw [he] at hw
      refine Fn.of tblOK [] _ _ _ _ _ Try.func39 rfl rfl (by kernel_rfl) (by kernel_rfl) rfl (drawOK tblOK) rfl ?_
      refine ⟨fun c => ?_, fun _ => ?_⟩
      · have c : (((fnW s2 a b :: l).length : Nat) : Int) = 0 := of_decide_eq_true c
        simp at c
        omega
      refine ⟨by decide, fnW s2 a b, rfl, ?_⟩
      refine ⟨_, _, _, _, hw, ⟨rfl, rfl, trivial⟩, rfl, ?_⟩
      have q : 0 ≤ (1 : Int) ∧ (1 : Int) ≤ (((fnW s2 a b :: l).length : Nat) : Int) := by rw [List.length_cons]; omega
      refine ⟨q, ?_⟩
      refine ⟨fun h => absurd h (by decide), fun _ => ?_⟩
      refine ⟨fun _ => ?_, fun h => absurd h (by decide)⟩
      refine ⟨rfl, ?_⟩
      refine ⟨_, _, _, Le.refl _ _, rfl, ⟨?_, rfl, trivial⟩, ⟨?_, rfl, rfl, trivial⟩, rfl⟩
      · show decide (((List.drop 1 (List.take (fnW s2 a b :: l).length (fnW s2 a b :: l))).length : Int) = 0) = _
        rw [drop_one, hlen]
      · show some (Ch.cells [.d (.lst .fn (List.drop 1 (List.take (fnW s2 a b :: l).length (fnW s2 a b :: l)))), .d (.int .i64 0)]) = _
        rw [drop_one]
/-! safe.Save: all steps go through, if there is room. -/
def OkSt (n : Int) : SvS → Prop
  | none => True
  | some (a, x) => 0 ≤ a ∧ a < n ∧ x.length = 16
theorem keys_len {n : Int} {s : SMap} (h : MapOK n s) : (s.length : Int) ≤ max n 0 := by
  have := nodup_bound n.toNat (keysI s) h.nd fun k hk => by have := h.rg k hk; omega
  rw [show (keysI s).length = s.length from List.length_map _] at this
  omega
theorem sput_in {k : Int} {x : El uX} : ∀ {s : SMap}, (mget s (k : El uI)).isSome = true → (putI s k x).length = s.length
  | [], h => by cases h
  | p :: s, h => by
    rw [putI_cons]
    cases e : eqP k p with
    | true => rfl
    | false =>
      have h2 : (mget s (k : El uI)).isSome = true := by
        have h : (match eqP k p with | true => some p.2 | false => mget s (k : El uI)).isSome = true := h
        rw [e] at h
        exact h
      simp only [List.length_cons]
      rw [sput_in h2]
theorem sput_new {k : Int} {x : El uX} : ∀ {s : SMap}, (mget s (k : El uI)).isSome = false → (putI s k x).length = s.length + 1
  | [], _ => rfl
  | p :: s, h => by
    rw [putI_cons]
    have h : (match eqP k p with | true => some p.2 | false => mget s (k : El uI)).isSome = false := h
    cases e : eqP k p with
    | true => rw [e] at h; cases h
    | false =>
      rw [e] at h
      simp only [List.length_cons]
      rw [sput_new h]
theorem write16 {m : StM} (ho : StOK m) (hr : m.n ≤ m.room) {a : Int} {x : List UInt8} (h : OkSt m.n (some (a, x))) : m.write a x = (m.wrote a x, 0) := by
  obtain ⟨h1, h2, h3⟩ := h
  have e1 : badLen x = false := by unfold badLen; rw [h3]; rfl
  have e2 : m.insideB a (x.length / 16 : Nat) = true := by
    rw [h3]
    simp only [StM.insideB, Bool.and_eq_true, decide_eq_true_eq]
    omega
  have hk : (MapOK m.n (wrS a x m.seen 1)) := wrS_ok h1 ho.seen 1 (by omega) (by omega)
  have hlen : ((wrS a x m.seen 1).length : Nat) = m.seen.length + freshN m.seen a 1 := by
    show (putI m.seen (a + (0 : Nat)) (chunk x 0)).length = m.seen.length + (match (mget m.seen (a + (0 : Nat) : Int)).isSome with | true => 0 | false => 0 + 1)
    cases e : (mget m.seen (a + (0 : Nat) : Int)).isSome with
    | true => exact sput_in e
    | false => exact sput_new e
  have e3 : m.fullB a (x.length / 16) = false := by
    rw [h3]
    unfold StM.fullB
    rw [Bool.and_eq_false_iff]
    left
    refine decide_eq_false fun hlt => ?_
    have h5 := keys_len hk
    have := ho.n0
    have hlt : m.room < ((m.seen.length + freshN m.seen a 1 : Nat) : Int) := hlt
    rw [← hlen] at hlt
    omega
  unfold StM.write
  rw [e1]
  simp only
  rw [e2]
  simp only
  rw [e3]
def runL (m : StM) (l : List SvS) : StM := l.foldl (fun m st => (runSt m st).1) m
theorem runL_snoc (m : StM) (l : List SvS) (st : SvS) : runL m (l ++ [st]) = (runSt (runL m l) st).1 := by
  unfold runL
  rw [List.foldl_append]
  rfl
structure RunOK (m m' : StM) (i : Nat) : Prop where
  ok : StOK m'
  n : m'.n = m.n
  room : m'.room = m.room
  lo : m'.loose.length ≤ m.loose.length + i
theorem runSt_ok {m : StM} (ho : StOK m) (hr : m.n ≤ m.room) {st : SvS} (h : OkSt m.n st) : (runSt m st).2 = 0 ∧ RunOK m (runSt m st).1 1 := by
  match st, h with
  | none, _ => exact ⟨rfl, ho.flush, rfl, rfl, Nat.zero_le _⟩
  | some (a, x), h =>
    have e := write16 ho hr h
    have hw := ho.write a x
    show (m.write a x).2 = 0 ∧ RunOK m (m.write a x).1 1
    rw [e] at hw ⊢
    refine ⟨rfl, hw, rfl, rfl, ?_⟩
    show (wrL a x m.loose (x.length / 16)).length ≤ _
    rw [wrL_length, h.2.2]
    exact Nat.le_refl _
theorem runL_ok {m : StM} (ho : StOK m) (hr : m.n ≤ m.room) : ∀ (i : Nat) (l : List SvS), (∀ st ∈ l, OkSt m.n st) → i ≤ l.length → RunOK m (runL m (l.take i)) i
  | 0, l, _, _ => ⟨ho, rfl, rfl, Nat.le_refl _⟩
  | i + 1, l, h, hi => by
    have ih := runL_ok ho hr i l h (by omega)
    rw [List.take_succ_eq_append_getElem hi, runL_snoc]
    have h2 := (runSt_ok ih.ok (by rw [ih.n, ih.room]; exact hr) (st := l[i]) (by rw [ih.n]; exact h _ (List.getElem_mem hi))).2
    exact ⟨h2.ok, h2.n.trans ih.n, h2.room.trans ih.room, by have := h2.lo; have := ih.lo; omega⟩
theorem sset_sset {a : Nat} {m1 m2 : StM} : ∀ L : SPool, sset (sset L a m1) a m2 = sset L a m2
  | [] => rfl
  | p :: L => by
    show sset (if p.1 = a then (p.1, m1) :: L else p :: sset L a m1) a m2 = if p.1 = a then (p.1, m2) :: L else p :: sset L a m2
    by_cases e : p.1 = a
    · rw [if_pos e, if_pos e]
      show (if p.1 = a then (p.1, m2) :: L else _) = _
      rw [if_pos e]
    · rw [if_neg e, if_neg e]
      show (if p.1 = a then _ else p :: sset (sset L a m1) a m2) = _
      rw [if_neg e, sset_sset]
theorem sget_sset {a : Nat} {m m' : StM} : ∀ {L : SPool}, sget L a = some m → sget (sset L a m') a = some m'
  | [], h => by cases h
  | p :: L, h => by
    rw [sget_cons] at h
    show sget (if p.1 = a then (p.1, m') :: L else p :: sset L a m') a = _
    by_cases e : p.1 = a
    · rw [if_pos e, sget_cons, if_pos e]
    · rw [if_neg e] at h ⊢
      rw [sget_cons, if_neg e]
      exact sget_sset h
theorem chunkS_len (b : List UInt8) (j : Nat) : (chunkS b j).length = 16 := by
  unfold chunkS laid
  simp only [List.length_append, List.length_take, List.length_drop, List.length_replicate]
  omega
theorem hdrW_len (b : List UInt8) (n : Int) : (hdrW b n).length = 16 := by
  unfold hdrW sealB
  rw [List.length_append, encR_length, encNs_length]
  rfl
theorem mem_stW {b : List UInt8} {k area : Int} {st : SvS} : ∀ {j : Nat}, st ∈ stW b k area j → ∃ i : Nat, i < j ∧ st = some (2 + k * area + (i : Nat), chunkS b i)
  | 0, h => by cases h
  | j + 1, h => by
    rw [stW, List.mem_append, List.mem_singleton] at h
    rcases h with h | h
    · obtain ⟨i, h1, h2⟩ := mem_stW h
      exact ⟨i, by omega, h2⟩
    · exact ⟨j, by omega, h⟩
theorem stpsB_ok {m : StM} (ho : StOK m) (h2 : 2 ≤ m.n) {b : List UInt8} (hb : (b.length : Int) ≤ areaS m.n * 16) {k : Int} (hk : k = 0 ∨ k = 1) (n : Int) : ∀ st ∈ stpsB b k (areaS m.n) n, OkSt m.n st := by
  obtain ⟨a0, a1⟩ := area_ok h2 ho.n1
  intro st hst
  unfold stpsB at hst
  simp only [List.mem_append, List.mem_singleton] at hst
  rcases hst with ((h | h) | h) | h
  · obtain ⟨i, h1, rfl⟩ := mem_stW h
    have : (i : Int) < areaS m.n := by unfold cntS at h1; omega
    refine ⟨?_, ?_, chunkS_len b i⟩
    · rcases hk with rfl | rfl <;> omega
    · rcases hk with rfl | rfl <;> omega
  · rw [h]; trivial
  · rw [h]
    exact ⟨by omega, by omega, hdrW_len b n⟩
  · rw [h]; trivial
theorem stpsB_len (b : List UInt8) (k area n : Int) : (stpsB b k area n).length = cntS b + 3 := by
  unfold stpsB
  simp [stW_len]
@[reducible] def svaK (N i : Nat) : KL := [(5, vP 3001), (6, vI 0), (17, vI (N : Nat)), (18, vI (i : Nat))]
@[reducible] def svaB (s : Nat) (stps : List SvS) (M : SPool) : BL := [(3001, .obj (svO s stps 0)), (1003, .obj (.pool (poolS M)))]
/-- A step of a run of steps. -/
theorem svRun_fn {m : StM} (ho : StOK m) (hr : m.n ≤ m.room) {s : Nat} {M : SPool} (hM : sget M s = some m) {stps : List SvS} (hs : ∀ st ∈ stps, OkSt m.n st) (hl : m.loose.length + stps.length ≤ 1000000) {i : Nat} (hi : i < stps.length) :
    Fn Try.prog 39 [vP 1001] [(1001, .obj (svO s (stps.drop i) 0)), (1003, .obj (.pool (poolS (sset M s (runL m (stps.take i))))))] [] (.tup [.one (.d (.bool (decide (((stps.drop (i + 1)).length : Int) = 0)))), vErr 0])
      [(1001, .obj (svO s (stps.drop (i + 1)) 0)), (1003, .obj (.pool (poolS (sset M s (runL m (stps.take (i + 1)))))))] := by
  have h1 := runL_ok ho hr i stps hs (by omega)
  have hst := hs _ (List.getElem_mem hi)
  have h2 := svStep_fn (s := s) (st := stps[i]) (rest := stps.drop (i + 1)) (M := sset M s (runL m (stps.take i))) (sget_sset hM) h1.ok (by have := h1.lo; omega) (fun a x e => by
    rw [e] at hst
    have := hst.2.2
    omega) (runSt_ok h1.ok (by rw [h1.n, h1.room]; exact hr) (by rw [h1.n]; exact hst)).1
  rw [sset_sset, ← runL_snoc, ← List.take_succ_eq_append_getElem hi, ← List.drop_eq_getElem_cons hi] at h2
  exact h2
set_option maxHeartbeats 1000000 in
theorem save_fn {m : StM} (ho : StOK m) (h2 : 2 ≤ m.n) (hr : m.n ≤ m.room) (hl : m.loose.length ≤ 10000) {s : Nat} {M : SPool} (hM : sget M s = some m) (b : List UInt8) (hb : (b.length : Int) ≤ areaS m.n * 16) (h30 : (newJ m 2).2.2 < 1073741824) (h31 : 0 ≤ (newJ m 2).2.2) (hat : -1 ≤ (newJ m 2).1 ∧ (newJ m 2).1 ≤ 1) :
    Fn Try.prog 78 [vAd s, vL .u8 b] [(1003, .obj (.pool (poolS M)))] [] (vI 0) [(1003, .obj (.pool (poolS (sset M s (runL m (stpsB b (((newJ m 2).1 + 1) % 2) (areaS m.n) (newJ m 2).2.2))))))] := by
  have hbg := begin_fn ho h2 hM b hb h30 h31 hat
  have hok := stpsB_ok ho h2 hb (k := ((newJ m 2).1 + 1) % 2) (by omega) (newJ m 2).2.2
  have hsl := stpsB_len b (((newJ m 2).1 + 1) % 2) (areaS m.n) (newJ m 2).2.2
  obtain ⟨a0, a1⟩ := area_ok h2 ho.n1
  have hn1 := ho.n1
  have hcn : cntS b ≤ 100000 := by unfold cntS; omega
  generalize stpsB b (((newJ m 2).1 + 1) % 2) (areaS m.n) (newJ m 2).2.2 = stps at hbg hok hsl ⊢
  refine Fn.of tblOK [] _ _ _ _ _ Try.func78 rfl rfl (by kernel_rfl) (by kernel_rfl) rfl (drawOK tblOK) rfl ?_
  refine ⟨_, _, _, _, Fn.ren [(2001, 3001)] hbg, ⟨rfl, trivial⟩, rfl, ?_⟩
  refine ⟨fun h => absurd h (by decide), fun _ => ?_⟩
  refine ⟨_, _, _, _, Fn.ren [(1001, 3001)] (svLeft_fn s stps 0), ⟨rfl, trivial⟩, rfl, ?_⟩
  show TrQ _ _ _ _ _ _ _
  refine TrQ.loop tblOK (drawOK tblOK) [] (by kernel_rfl) (X := Nat) (fun i => svaK stps.length i) (fun i => svaB s (stps.drop i) (sset M s (runL m (stps.take i)))) (fun i => i ≤ stps.length) (fun i => stps.length - i) 0 (Nat.zero_le _) ?_ ?_
  · refine Le.sub ⟨rfl, rfl, rfl, rfl, trivial⟩ ⟨rfl, ?_, trivial⟩
    show _ = some (Ch.obj (.pool (poolS (sset M s m))))
    rw [sset_same hM]
    rfl
  intro i hi
  refine ⟨fun h => ?_, fun h => ?_⟩
  · have h : decide ((i : Int) < (stps.length : Nat)) = true := h
    have hi1 : i < stps.length := by simpa using h
    refine ⟨_, _, _, _, Fn.ren [(1001, 3001)] (svRun_fn ho hr hM hok (by omega) hi1), ⟨rfl, rfl, trivial⟩, rfl, ?_⟩
    exact ⟨by omega, i + 1, by omega, by omega, Le.sub ⟨rfl, rfl, rfl, rfl, trivial⟩ ⟨rfl, rfl, trivial⟩⟩
  · have h : decide ((i : Int) < (stps.length : Nat)) = false := h
    have hi1 : i = stps.length := by simp at h; omega
    subst hi1
    rw [List.take_length]
    exact ⟨_, _, _, Le.refl _ _, rfl, rfl, ⟨rfl, trivial⟩, rfl⟩
/-! What a fresh store has behind a save; what a crash leaves of it. -/
def xB (x : El uX) : List UInt8 := x
def z16 : List UInt8 := List.replicate 16 0
theorem secB_nil (a : Int) : secB [] a = z16 := rfl
theorem secB_cons (p : El uI × El uX) (s : SMap) (a : Int) : secB (p :: s) a = match eqP a p with | true => xB p.2 | false => secB s a := by
  unfold secB secAt
  show (match eqP a p with | true => some p.2 | false => mget s (a : El uI)).getD (dflt uX) = _
  cases eqP a p <;> rfl
theorem secB_put (k : Int) (x : El uX) (a : Int) : ∀ s : SMap, secB (putI s k x) a = if k = a then xB x else secB s a
  | [] => by
    rw [putI_nil, secB_cons, secB_nil]
    by_cases h : k = a
    · rw [if_pos h, show eqP a (mkP k x) = true from eqP_iff.2 h.symm]; rfl
    · rw [if_neg h, show eqP a (mkP k x) = false from Bool.eq_false_iff.2 fun e => h (eqP_iff.1 e).symm]
  | p :: s => by
    rw [putI_cons]
    cases e : eqP k p with
    | true =>
      have e := eqP_iff.1 e
      simp only
      rw [secB_cons, secB_cons]
      by_cases h : k = a
      · rw [if_pos h, show eqP a (mkP k x) = true from eqP_iff.2 h.symm]; rfl
      · rw [if_neg h, show eqP a (mkP k x) = false from Bool.eq_false_iff.2 fun e2 => h (eqP_iff.1 e2).symm, show eqP a p = false from Bool.eq_false_iff.2 fun e2 => h (e.trans (eqP_iff.1 e2).symm)]
    | false =>
      have e : ¬ k = kP p := fun h => by rw [eqP_iff.2 h] at e; cases e
      simp only
      rw [secB_cons, secB_cons, secB_put k x a s]
      by_cases h : k = a
      · simp only [if_pos h, show eqP a p = false from Bool.eq_false_iff.2 fun e2 => e (h.trans (eqP_iff.1 e2))]
      · simp only [if_neg h]
/-- A write of one sector. -/
theorem wrote_sec (m : StM) {a : Int} {x : List UInt8} (hx : x.length = 16) (i : Int) : secB (m.wrote a x).seen i = if a = i then x else secB m.seen i := by
  show secB (wrS a x m.seen (x.length / 16)) i = _
  rw [hx]
  show secB (putI m.seen (a + (0 : Nat)) (chunk x 0)) i = _
  rw [secB_put, show a + ((0 : Nat) : Int) = a by omega]
  have e : xB (chunk x 0) = x := by
    show chunkL x 0 = x
    rw [chunkL_eq]
    show (x.drop 0).take 16 = x
    rw [List.drop_zero, ← hx, List.take_length]
  rw [e]
theorem runSt_sec {m : StM} (ho : StOK m) (hr : m.n ≤ m.room) {a : Int} {x : List UInt8} (h : OkSt m.n (some (a, x))) (i : Int) : secB (runSt m (some (a, x))).1.seen i = if a = i then x else secB m.seen i := by
  show secB (m.write a x).1.seen i = _
  rw [write16 ho hr h]
  exact wrote_sec m h.2.2 i
theorem runL_app (m : StM) (l l' : List SvS) : runL m (l ++ l') = runL (runL m l) l' := by
  unfold runL
  rw [List.foldl_append]
/-- Behind the writes of the area. -/
theorem area_sec {m : StM} (ho : StOK m) (hr : m.n ≤ m.room) {b : List UInt8} {k area : Int} (i : Int) : ∀ j : Nat, (∀ st ∈ stW b k area j, OkSt m.n st) →
    secB (runL m (stW b k area j)).seen i = if 2 + k * area ≤ i ∧ i < 2 + k * area + (j : Nat) then chunkS b (i - (2 + k * area)).toNat else secB m.seen i
  | 0, _ => by
    show secB m.seen i = _
    rw [if_neg (by omega)]
  | j + 1, h => by
    have h1 : ∀ st ∈ stW b k area j, OkSt m.n st := fun st hs => h st (List.mem_append.2 (.inl hs))
    have h2 : OkSt m.n (some (2 + k * area + (j : Nat), chunkS b j)) := h _ (List.mem_append.2 (.inr (List.mem_singleton.2 rfl)))
    have ih := area_sec ho hr i j h1
    have hk := runL_ok ho hr j (stW b k area j) h1 (by rw [stW_len]; exact Nat.le_refl _)
    rw [List.take_of_length_le (by rw [stW_len]; exact Nat.le_refl _)] at hk
    rw [stW, runL_snoc, runSt_sec hk.ok (by rw [hk.n, hk.room]; exact hr) (by rw [hk.n]; exact h2), ih]
    by_cases e : 2 + k * area + (j : Nat) = i
    · rw [if_pos e, if_pos (by omega)]
      congr 1
      omega
    · rw [if_neg e]
      by_cases e2 : 2 + k * area ≤ i ∧ i < 2 + k * area + (j : Nat)
      · rw [if_pos e2, if_pos (by omega)]
      · rw [if_neg e2, if_neg (by omega)]
theorem chunkS_eq (b : List UInt8) (j : Nat) : chunkS b j = (b.drop (16 * j)).take 16 ++ List.replicate (16 - ((b.drop (16 * j)).take 16).length) 0 := by
  unfold chunkS laid
  rw [List.take_zero, List.nil_append, List.drop_replicate, Nat.zero_add]
theorem chunks_eq (b : List UInt8) : ∀ n : Nat, (List.range n).flatMap (fun i => chunkS b i) = b.take (16 * n) ++ List.replicate (16 * n - b.length) 0
  | 0 => by simp
  | n + 1 => by
    rw [List.range_succ, List.flatMap_append, chunks_eq b n]
    simp only [List.flatMap_cons, List.flatMap_nil, List.append_nil]
    rw [chunkS_eq]
    by_cases h : 16 * n ≤ b.length
    · rw [show 16 * n - b.length = 0 by omega, List.replicate_zero, List.append_nil, ← List.append_assoc]
      have e : b.take (16 * n) ++ (b.drop (16 * n)).take 16 = b.take (16 * (n + 1)) := by
        rw [show 16 * (n + 1) = 16 * n + 16 by omega, List.take_add]
      rw [e]
      congr 2
      rw [List.length_take, List.length_drop]
      omega
    · rw [List.drop_eq_nil_of_le (by omega), List.take_nil, List.nil_append, List.length_nil, List.take_of_length_le (by omega), List.take_of_length_le (by omega), List.append_assoc, List.replicate_append_replicate]
      congr 2
      omega
/-! ### a fresh store, saved -/
def freshM (n room : Int) : StM := ⟨n, room, [], [], []⟩
def savedM (n room : Int) (b : List UInt8) : StM := runL (freshM n room) (stpsB b 0 (areaS n) 0)
structure SavK (m : StM) (n room : Int) (b : List UInt8) : Prop where
  ok : StOK m
  n : m.n = n
  room : m.room = room
  lo : m.loose = []
  sf : m.safe = m.seen
  s0 : secB m.seen 0 = hdrW b 0
  s1 : secB m.seen 1 = z16
  sa : ∀ i : Nat, secB m.seen (2 + (i : Nat)) = if i < cntS b then chunkS b i else z16
theorem saved_ok {n room : Int} (hn : srightN n = true) (h2 : 2 ≤ n) (hr : n ≤ room) {b : List UInt8} (hb : (b.length : Int) ≤ areaS n * 16) : SavK (savedM n room b) n room b := by
  have ho : StOK (freshM n room) := StOK.new hn
  have hs := stpsB_ok (m := freshM n room) ho h2 hb (k := 0) (.inl rfl) 0
  obtain ⟨a0, a1⟩ := area_ok h2 ho.n1
  have hall := runL_ok ho hr _ _ hs (Nat.le_refl _)
  rw [List.take_length] at hall
  have h1 : ∀ st ∈ stW b 0 (areaS n) (cntS b), OkSt n st := fun st h => hs st (by unfold stpsB; simp only [List.mem_append]; exact .inl (.inl (.inl h)))
  have hw := runL_ok ho hr (cntS b) (stW b 0 (areaS n) (cntS b)) h1 (by rw [stW_len]; exact Nat.le_refl _)
  rw [List.take_of_length_le (by rw [stW_len]; exact Nat.le_refl _)] at hw
  have hwf : StOK (runL (freshM n room) (stW b 0 (areaS n) (cntS b))).flush := hw.ok.flush
  have e : savedM n room b = (runSt (runL (freshM n room) (stW b 0 (areaS n) (cntS b))).flush (some (0, hdrW b 0))).1.flush := by
    unfold savedM stpsB
    rw [runL_snoc, runL_snoc, runL_snoc]
    rfl
  have hsec : ∀ i, secB (savedM n room b).seen i = if 0 = i then hdrW b 0 else secB (runL (freshM n room) (stW b 0 (areaS n) (cntS b))).seen i := fun i => by
    rw [e]
    exact runSt_sec hwf (by show (runL (freshM n room) (stW b 0 (areaS n) (cntS b))).n ≤ (runL (freshM n room) (stW b 0 (areaS n) (cntS b))).room; rw [hw.n, hw.room]; exact hr) (by
      show OkSt (runL (freshM n room) (stW b 0 (areaS n) (cntS b))).n _
      rw [hw.n]
      exact ⟨by decide, by show (0 : Int) < n; omega, hdrW_len b 0⟩) i
  have hz : ∀ i, secB (freshM n room).seen i = z16 := fun i => rfl
  refine ⟨hall.ok, hall.n, hall.room, by rw [e]; rfl, by rw [e]; rfl, ?_, ?_, fun i => ?_⟩
  · rw [hsec, if_pos rfl]
  · rw [hsec, if_neg (by decide), area_sec ho hr 1 _ h1, if_neg (by omega), hz]
  · rw [hsec, if_neg (by omega), area_sec ho hr _ _ h1, hz]
    by_cases hi : i < cntS b
    · rw [if_pos (by omega), if_pos hi]
      congr 1
      omega
    · rw [if_neg (by omega), if_neg hi]
theorem SavK.crash {m : StM} {n room : Int} {b : List UInt8} (h : SavK m n room b) (keep : List Int) : m.crash keep = m := by
  obtain ⟨n', r', sf, se, lo⟩ := m
  have h1 : lo = [] := h.lo
  have h2 : sf = se := h.sf
  subst h1 h2
  rfl
theorem hdr_open (b : List UInt8) : openO (hdrW b 0) = (encNs 4 [(0 + 1 : Int).toNat, b.length, (sumO b).toNat], true) := by
  have hl := hdrW_len b 0
  have e : (hdrW b 0).take ((hdrW b 0).length - 4) = encNs 4 [(0 + 1 : Int).toNat, b.length, (sumO b).toNat] := by
    rw [hl]
    unfold hdrW sealB
    rw [List.take_append_of_le_length (by rw [encNs_length]; exact Nat.le_refl _), List.take_of_length_le (by rw [encNs_length]; exact Nat.le_refl _)]
  unfold openO
  rw [if_neg (by rw [hl]; omega), e]
  exact if_pos rfl
theorem zero_open : (openO z16).2 = false := by kernel_rfl
theorem readB_one (s : SMap) (a : Int) : readB s a 1 = secB s a := by
  unfold readB
  rw [show List.range 1 = [0] from rfl, List.flatMap_cons, List.flatMap_nil, List.append_nil]
  show secB s (a + ((0 : Nat) : Int)) = _
  rw [show a + ((0 : Nat) : Int) = a by omega]
theorem copM_zero {m : StM} {k : Int} (h : secB m.seen k = z16) : copM m k = ([], 0) := by
  unfold copM
  have e : (openO (hdrS m k)).2 = false := by
    unfold hdrS
    rw [readB_one, h]
    exact zero_open
  rw [e]
theorem num3_enc {g l c : Nat} (h1 : g < 256 ^ 4) (h2 : l < 256 ^ 4) (h3 : c < 256 ^ 4) : num3 (encNs 4 [g, l, c]) = (g, l, c) := by
  have e : encNs 4 [g, l, c] = encR g 4 ++ (encR l 4 ++ (encR c 4 ++ [])) := by unfold encNs; simp
  unfold num3
  rw [e, rdN_forth h1, rdN_forth h2, rdN_forth h3]
theorem area_take {m : StM} {n room : Int} {b : List UInt8} (h : SavK m n room b) (hb : (b.length : Int) ≤ areaS n * 16) : (areaB m 0).take b.length = b := by
  have hc : cntS b ≤ (areaS n).toNat := by unfold cntS; omega
  have e : areaB m 0 = (List.range (areaS n).toNat).flatMap fun i => if i < cntS b then chunkS b i else z16 := by
    unfold areaB readB
    rw [h.n]
    congr 1
    funext i
    rw [show 2 + 0 * areaS n + (i : Int) = 2 + (i : Int) by omega]
    exact h.sa i
  rw [e, show (areaS n).toNat = cntS b + ((areaS n).toNat - cntS b) by omega, List.range_add, List.flatMap_append]
  have e2 : ((List.range (cntS b)).flatMap fun i => if i < cntS b then chunkS b i else z16) = (List.range (cntS b)).flatMap fun i => chunkS b i := by
    rw [List.flatMap_def, List.flatMap_def]
    congr 1
    exact List.map_congr_left fun i hi => if_pos (List.mem_range.1 hi)
  have h16 : b.length ≤ 16 * cntS b := by unfold cntS; omega
  rw [e2, chunks_eq, List.take_of_length_le h16, List.append_assoc]
  exact List.take_left' rfl
theorem copM_saved {m : StM} {n room : Int} {b : List UInt8} (h : SavK m n room b) (hb : (b.length : Int) ≤ areaS n * 16) (hl : b.length ≤ 1000000) : copM m 0 = (b, 1) := by
  have hs := sumO_ok b
  have e1 : hdrS m 0 = hdrW b 0 := by unfold hdrS; rw [readB_one]; exact h.s0
  unfold copM
  rw [e1, hdr_open]
  simp only
  rw [num3_enc (by decide) (by omega) (by omega)]
  simp only
  rw [area_take h hb, h.n, show (((sumO b).toNat : Nat) : Int) = sumO b by omega]
  rw [decide_eq_false (show ¬ (((0 + 1 : Int).toNat : Nat) : Int) < 1 by decide), decide_eq_false (show ¬ (1073741824 : Int) < (((0 + 1 : Int).toNat : Nat) : Int) by decide), decide_eq_false (show ¬ areaS n * 16 < ((b.length : Nat) : Int) by omega), decide_eq_true (rfl : sumO b = sumO b)]
  rfl
theorem newJ_saved {m : StM} {n room : Int} {b : List UInt8} (h : SavK m n room b) (hb : (b.length : Int) ≤ areaS n * 16) (hl : b.length ≤ 1000000) : newJ m 2 = (0, b, 1) := by
  have h0 : copM m ((0 : Nat) : Int) = (b, 1) := copM_saved h hb hl
  have h1 : copM m ((1 : Nat) : Int) = ([], 0) := copM_zero h.s1
  have e1 : newJ m 1 = (0, b, 1) := by
    unfold newJ
    rw [h0]
    exact if_pos (show (0 : Int) < 1 by decide)
  unfold newJ
  rw [e1, h1]
  exact if_neg (show ¬ (1 : Int) < 0 by decide)
theorem newJ_fresh (n room : Int) : newJ (freshM n room) 2 = (-1, [], 0) := by
  have h0 : copM (freshM n room) ((0 : Nat) : Int) = ([], 0) := copM_zero rfl
  have h1 : copM (freshM n room) ((1 : Nat) : Int) = ([], 0) := copM_zero rfl
  have e1 : newJ (freshM n room) 1 = (-1, [], 0) := by
    unfold newJ
    rw [h0]
    exact if_neg (show ¬ (0 : Int) < 0 by decide)
  unfold newJ
  rw [e1, h1]
  exact if_neg (show ¬ (0 : Int) < 0 by decide)
end Go.Proofs.Ythghcdddambaeaa
