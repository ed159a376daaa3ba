/-
  Files over stores: the pool by stores' models; Remove; the law's stores.
-/
import Derived.Test.YthghcdddambaeaaFc
import Derived.Test.YthghcdddambaeaaSt8
set_option linter.unusedVariables false
set_option linter.unusedSimpArgs false
set_option maxRecDepth 10000
namespace Go.Proofs.Ythghcdddambaeaa
open Go.RowKit Go.Proofs
abbrev SPool := List (Nat × StM)
def poolS (L : SPool) : List (Nat × Ob) := L.map fun p => (p.1, stO p.2)
def sget : SPool → Nat → Option StM
  | [], _ => none
  | p :: L, b => if p.1 = b then some p.2 else sget L b
def sset : SPool → Nat → StM → SPool
  | [], _, _ => []
  | p :: L, b, m => if p.1 = b then (p.1, m) :: L else p :: sset L b m
theorem pget_poolS (b : Nat) : ∀ L : SPool, pget (poolS L) b = (sget L b).map stO
  | [] => rfl
  | p :: L => by
    show (if p.1 = b then some (stO p.2) else pget (poolS L) b) = _
    unfold sget
    split
    · rfl
    · exact pget_poolS b L
theorem pset_poolS (b : Nat) (m : StM) : ∀ L : SPool, pset (poolS L) b (stO m) = poolS (sset L b m)
  | [] => rfl
  | p :: L => by
    show (if p.1 = b then (p.1, stO m) :: poolS L else (p.1, stO p.2) :: pset (poolS L) b (stO m)) = _
    unfold sset
    split
    · rfl
    · rw [pset_poolS b m L]; rfl
@[reducible] def flS (c d q : Nat) (room : Int) (es : List (El .str × El .adr)) (L : SPool) : BL := flP c d q room es (poolS L)
@[reducible] def vAd (b : Nat) : SV := .c (.one (.d (.adr (some b))))
/-- A contract on a store, as one on one of the pool. -/
theorem poolFn {f : FuncId} {args : List SV} {res : SV} {m m' : StM} {L : SPool} {b : Nat} (h : Fn Try.prog f (vP 1001 :: args) [(1001, .obj (stO m))] [] res [(1001, .obj (stO m'))]) (hL : sget L b = some m)
    (h1 : (args.all fun v => !v.has 1001) = true) (h2 : (!res.has 1001) = true) : Fn Try.prog f (vAd b :: args) [(1003, .obj (.pool (poolS L)))] [] res [(1003, .obj (.pool (poolS (sset L b m'))))] := by
  have := (FnX.pool (c := 1001) (q := 1003) (b := b) (args := args) (Bi := []) (nw := []) (X := Unit) (res := fun _ => res) (Bo := fun _ => []) (o := stO m) (o' := fun _ => stO m') (L := poolS L) h.x (by rw [pget_poolS, hL]; rfl) h1 ⟨rfl, rfl⟩ rfl (fun _ => h2)).fn
  rw [pset_poolS] at this
  exact this
theorem fremove_fn (room : Int) (es : List (El .str × El .adr)) (name : List UInt8) : Fn Try.prog 77 [vP 1001, vS name] (flB 1001 1002 room es) [] (vI (match fget es name with | some _ => 0 | none => 40)) (flB 1001 1002 room (mdel es (name : El .str))) := by
  cases h : fget es name with
  | some b =>
    refine Fn.of tblOK [] _ _ _ _ _ Try.func77 rfl rfl (by kernel_rfl) (by kernel_rfl) rfl (drawOK tblOK) rfl ?_
    refine ⟨_, _, _, _, fopen_ok room es name b h, ⟨rfl, rfl, trivial⟩, rfl, ?_⟩
    exact ⟨_, _, _, Le.refl _ _, rfl, rfl, ⟨rfl, rfl, trivial⟩, rfl⟩
  | none =>
    refine Fn.of tblOK [] _ _ _ _ _ Try.func77 rfl rfl (by kernel_rfl) (by kernel_rfl) rfl (drawOK tblOK) rfl ?_
    refine ⟨_, _, _, _, fopen_no room es name h, ⟨rfl, rfl, trivial⟩, rfl, ?_⟩
    exact ⟨_, _, _, Le.refl _ _, rfl, rfl, ⟨rfl, rfl, trivial⟩, rfl⟩
/-- A call on a store. -/
@[reducible] def uO3 : U := .pr uI (.pr uI (.pr uI (.pr (.sl .u8) (.sl uI))))
abbrev Op3 := El uO3
@[reducible] def oKind (o : Op3) : Int := o.1
@[reducible] def oAt (o : Op3) : Int := o.2.1
@[reducible] def oN (o : Op3) : Int := o.2.2.1
@[reducible] def oB (o : Op3) : List UInt8 := o.2.2.2.1
@[reducible] def oKeep (o : Op3) : List Int := o.2.2.2.2
@[reducible] def op3L (o : Op3) : List S1 := [.d (.int .i64 (oKind o)), .d (.int .i64 (oAt o)), .d (.int .i64 (oN o)), .d (.lst .u8 (oB o)), .d (.lst uI (oKeep o))]
@[reducible] def op3V (o : Op3) : SV := .c (.agg (op3L o))
/-- What a store is as: its numbers, its maps' keys, its sectors. -/
structure MapOK (n : Int) (s : SMap) : Prop where
  nd : (keysI s).Nodup
  rg : ∀ k ∈ keysI s, 0 ≤ k ∧ k < n
  wf : WfS s
structure StOK (m : StM) : Prop where
  n0 : 0 ≤ m.n
  n1 : m.n ≤ 4096
  seen : MapOK m.n m.seen
  safe : MapOK m.n m.safe
  lr : ∀ w ∈ m.loose, 0 ≤ (show Int from w.1) ∧ (show Int from w.1) < m.n
  lw : ∀ w ∈ m.loose, WfX w.2
def eqP (k : Int) (p : El uI × El uX) : Bool := eqKey uI (k : El uI) p.1
def mkP (k : Int) (x : El uX) : El uI × El uX := (k, x)
def kP (p : El uI × El uX) : Int := p.1
def putI (s : SMap) (k : Int) (x : El uX) : SMap := mput s (k : El uI) x
theorem putI_nil (k : Int) (x : El uX) : putI [] k x = [mkP k x] := rfl
theorem putI_cons (p : El uI × El uX) (l : SMap) (k : Int) (x : El uX) : putI (p :: l) k x = match eqP k p with | true => mkP k x :: l | false => p :: putI l k x := rfl
theorem eqP_iff {k : Int} {p : El uI × El uX} : eqP k p = true ↔ k = kP p := eqKey_int _ _
theorem keysI_cons (p : El uI × El uX) (l : SMap) : keysI (p :: l) = kP p :: keysI l := rfl
theorem kP_mk (k : Int) (x : El uX) : kP (mkP k x) = k := rfl
theorem mem_keys_put {k : Int} {x : El uX} {j : Int} : ∀ {s : SMap}, j ∈ keysI (putI s k x) ↔ j = k ∨ j ∈ keysI s
  | [] => by rw [putI_nil, keysI_cons, kP_mk, List.mem_cons]
  | p :: s => by
    rw [putI_cons]
    cases e : eqP k p with
    | true =>
      rw [keysI_cons, keysI_cons, kP_mk, ← eqP_iff.1 e]
      simp
    | false =>
      simp only
      rw [keysI_cons, keysI_cons, List.mem_cons, List.mem_cons, mem_keys_put]
      constructor
      · rintro (h | h | h)
        · exact .inr (.inl h)
        · exact .inl h
        · exact .inr (.inr h)
      · rintro (h | h | h)
        · exact .inr (.inl h)
        · exact .inl h
        · exact .inr (.inr h)
theorem nodup_put {k : Int} {x : El uX} : ∀ {s : SMap}, (keysI s).Nodup → (keysI (putI s k x)).Nodup
  | [], _ => by rw [putI_nil, keysI_cons]; exact List.nodup_cons.2 ⟨fun h => (by cases h), List.nodup_nil⟩
  | p :: s, h => by
    rw [keysI_cons, List.nodup_cons] at h
    rw [putI_cons]
    cases e : eqP k p with
    | true =>
      simp only
      rw [keysI_cons, kP_mk, eqP_iff.1 e]
      exact List.nodup_cons.2 h
    | false =>
      have e : k ≠ kP p := fun hh => by rw [eqP_iff.2 hh] at e; cases e
      simp only
      rw [keysI_cons]
      refine List.nodup_cons.2 ⟨fun hm => ?_, nodup_put h.2⟩
      rcases mem_keys_put.1 hm with hh | hh
      · exact e hh.symm
      · exact h.1 hh
theorem wf_put {k : Int} {x : El uX} (hx : WfX x) : ∀ {s : SMap}, WfS s → WfS (putI s k x)
  | [], _ => fun p hp => by
    rw [putI_nil] at hp
    rcases List.mem_cons.1 hp with e | e
    · rw [e]; exact hx
    · cases e
  | q :: s, h => fun p hp => by
    rw [putI_cons] at hp
    split at hp
    · rcases List.mem_cons.1 hp with rfl | hp
      · exact hx
      · exact h p (List.mem_cons_of_mem _ hp)
    · rcases List.mem_cons.1 hp with rfl | hp
      · exact h _ (List.mem_cons_self ..)
      · exact wf_put hx (fun p hp => h p (List.mem_cons_of_mem _ hp)) p hp
theorem MapOK.put {n : Int} {s : SMap} (h : MapOK n s) {k : Int} {x : El uX} (h0 : 0 ≤ k) (h1 : k < n) (hx : WfX x) : MapOK n (mput s (k : El uI) x) :=
  ⟨nodup_put h.nd, fun j hj => by
    rcases mem_keys_put.1 hj with rfl | hj
    · exact ⟨h0, h1⟩
    · exact h.rg j hj, wf_put hx h.wf⟩
theorem MapOK.filter {n : Int} {s : SMap} (h : MapOK n s) (n' : Int) : MapOK n' (s.filter fun p => decide ((show Int from p.1) < n')) :=
  ⟨h.nd.sublist (List.filter_sublist.map _), fun k hk => by
    obtain ⟨p, hp, rfl⟩ := List.mem_map.1 hk
    obtain ⟨hp, hd⟩ := List.mem_filter.1 hp
    exact ⟨(h.rg _ (List.mem_map_of_mem hp)).1, of_decide_eq_true hd⟩, fun p hp => h.wf p (List.mem_filter.1 hp).1⟩
theorem MapOK.nil (n : Int) : MapOK n [] := ⟨List.nodup_nil, fun k h => (by cases h), fun p h => (by cases h)⟩
theorem nodup_bound : ∀ (n : Nat) (l : List Int), l.Nodup → (∀ k ∈ l, 0 ≤ k ∧ k < n) → l.length ≤ n
  | 0, [], _, _ => Nat.le_refl _
  | 0, k :: l, _, h => by have := h k (List.mem_cons_self ..); omega
  | n + 1, l, hn, h => by
    by_cases hm : (n : Int) ∈ l
    · have h1 := nodup_bound n (l.erase (n : Int)) (hn.erase _) fun k hk => by
        have hk2 := (List.Nodup.mem_erase_iff hn).1 hk
        have := h k hk2.2
        have := hk2.1
        omega
      rw [List.length_erase_of_mem hm] at h1
      omega
    · have := nodup_bound n l hn fun k hk => by
        have := h k hk
        have : k ≠ n := fun e => hm (e ▸ hk)
        omega
      omega
theorem MapOK.len {n : Int} {s : SMap} (h : MapOK n s) (h1 : n ≤ 4096) : s.length ≤ 4096 := by
  have := nodup_bound 4096 (keysI s) h.nd fun k hk => by have := h.rg k hk; omega
  rwa [show (keysI s).length = s.length from List.length_map _] at this
theorem StOK.new {n room : Int} (h : srightN n = true) : StOK ⟨n, room, [], [], []⟩ := by
  simp [srightN] at h
  exact ⟨h.1, h.2, MapOK.nil _, MapOK.nil _, fun w hw => (by cases hw), fun w hw => (by cases hw)⟩
theorem StOK.flush {m : StM} (h : StOK m) : StOK m.flush := ⟨h.n0, h.n1, h.seen, h.seen, fun w hw => (by cases hw), fun w hw => (by cases hw)⟩
theorem crashS_ok {n : Int} {keep : List Int} : ∀ {l : List (El uW)} {k : Nat} {s : SMap}, (∀ w ∈ l, 0 ≤ (show Int from w.1) ∧ (show Int from w.1) < n) → (∀ w ∈ l, WfX w.2) → MapOK n s → MapOK n (crashS keep k l s)
  | [], _, _, _, _, h => h
  | w :: l, k, s, h1, h2, h => by
    unfold crashS
    refine crashS_ok (fun v hv => h1 v (List.mem_cons_of_mem _ hv)) (fun v hv => h2 v (List.mem_cons_of_mem _ hv)) ?_
    split
    · exact h.put (h1 w (List.mem_cons_self ..)).1 (h1 w (List.mem_cons_self ..)).2 (h2 w (List.mem_cons_self ..))
    · exact h
theorem StOK.crash {m : StM} (h : StOK m) (keep : List Int) : StOK (m.crash keep) :=
  ⟨h.n0, h.n1, crashS_ok h.lr h.lw h.safe, crashS_ok h.lr h.lw h.safe, fun w hw => (by cases hw), fun w hw => (by cases hw)⟩
theorem StOK.resize {m : StM} (h : StOK m) {n : Int} (hn : srightN n = true) : StOK (m.resize n) := by
  simp [srightN] at hn
  exact ⟨hn.1, hn.2, h.seen.filter n, h.seen.filter n, fun w hw => (by cases hw), fun w hw => (by cases hw)⟩
theorem StOK.room {m : StM} (h : StOK m) (r : Int) : StOK { m with room := r } := ⟨h.n0, h.n1, h.seen, h.safe, h.lr, h.lw⟩
theorem wrS_ok {n at_ : Int} {b : List UInt8} (h0 : 0 ≤ at_) {s : SMap} (h : MapOK n s) : ∀ k : Nat, at_ + k ≤ n → 16 * k ≤ b.length → MapOK n (wrS at_ b s k)
  | 0, _, _ => h
  | k + 1, h1, h2 => (wrS_ok h0 h k (by omega) (by omega)).put (by omega) (by omega) (chunk_wf h2)
theorem wrL_mem {at_ : Int} {b : List UInt8} {l : List (El uW)} {w : El uW} : ∀ k : Nat, w ∈ wrL at_ b l k → w ∈ l ∨ ∃ i, i < k ∧ w = mkW (at_ + (i : Nat)) (chunk b i)
  | 0, h => .inl h
  | k + 1, h => by
    rcases List.mem_append.1 h with h | h
    · rcases wrL_mem k h with h | ⟨i, hi, e⟩
      · exact .inl h
      · exact .inr ⟨i, by omega, e⟩
    · rw [List.mem_singleton] at h
      exact .inr ⟨k, by omega, h⟩
theorem StOK.write {m : StM} (h : StOK m) (at_ : Int) (b : List UInt8) : StOK (m.write at_ b).1 := by
  unfold StM.write
  split
  · exact h
  · split
    · exact h
    · rename_i hi
      simp only [StM.insideB, Bool.and_eq_true, decide_eq_true_eq] at hi
      obtain ⟨⟨i1, i2⟩, i3⟩ := hi
      split
      · exact h
      · refine ⟨h.n0, h.n1, wrS_ok i1 h.seen _ (by show at_ + _ ≤ m.n; omega) (by omega), h.safe, fun w hw => ?_, fun w hw => ?_⟩
        · rcases wrL_mem _ hw with hw | ⟨i, hi, rfl⟩
          · exact h.lr w hw
          · show 0 ≤ at_ + (i : Nat) ∧ at_ + (i : Nat) < m.n
            omega
        · rcases wrL_mem _ hw with hw | ⟨i, hi, rfl⟩
          · exact h.lw w hw
          · exact chunk_wf (by omega)
/-! ### a call on a store, as the laws make it -/
def StM.op (m : StM) (o : Op3) : StM × List UInt8 × Int :=
  if oKind o = 0 then ((m.write (oAt o) (oB o)).1, [], (m.write (oAt o) (oB o)).2)
  else if oKind o = 1 then (if oN o < 0 then (m, [], 1) else match m.insideB (oAt o) (oN o) with
    | true => (m, readB m.seen (oAt o) (oN o).toNat, 0)
    | false => (m, [], 31))
  else if oKind o = 2 then (m.flush, [], 0)
  else if oKind o = 3 then (m.crash (oKeep o), [], 0)
  else if oKind o = 4 then (match srightN (oN o) with
    | true => (m.resize (oN o), [], 0)
    | false => (m, [], 1))
  else if oKind o = 5 then ({ m with room := max (oN o) 0 }, [], 0)
  else (m, [], 0)
theorem StOK.op {m : StM} (h : StOK m) (o : Op3) : StOK (m.op o).1 := by
  unfold StM.op
  split
  · exact h.write _ _
  split
  · split
    · exact h
    · split <;> exact h
  split
  · exact h.flush
  split
  · exact h.crash _
  split
  · split
    · rename_i e; exact h.resize e
    · exact h
  split
  · exact h.room _
  · exact h
theorem stores_fn (m : StM) (o : Op3) (h : StOK m) (hb : (oB o).length ≤ 1073741824) (hk : (oKeep o).length ≤ 1073741824) (hl : m.loose.length ≤ 1073741824) :
    Fn Try.prog 52 [vP 1001, op3V o] [(1001, .obj (stO m))] [] (.tup [.one (.d (.str (m.op o).2.1)), vErr (m.op o).2.2]) [(1001, .obj (stO (m.op o).1))] := by
  refine Fn.of tblOK [] _ _ _ _ _ Try.func52 rfl rfl (by kernel_rfl) (by kernel_rfl) rfl (drawOK tblOK) rfl ?_
  refine ⟨rfl, ?_⟩
  refine ⟨fun c0 => ?_, fun c0 => ?_⟩
  · have c0 : oKind o = 0 := of_decide_eq_true c0
    have e : m.op o = ((m.write (oAt o) (oB o)).1, [], (m.write (oAt o) (oB o)).2) := if_pos c0
    rw [e]
    refine ⟨_, _, _, _, swrite_fn m (oAt o) (oB o) hb h.n0 h.n1 (h.seen.len h.n1) h.seen.wf hl, ⟨rfl, trivial⟩, rfl, ?_⟩
    exact ⟨_, _, _, Le.refl _ _, rfl, ⟨rfl, rfl, trivial⟩, ⟨rfl, trivial⟩, rfl⟩
  have c0 : oKind o ≠ 0 := of_decide_eq_false c0
  refine ⟨fun c1 => ?_, fun c1 => ?_⟩
  · have c1 : oKind o = 1 := of_decide_eq_true c1
    have e : m.op o = (if oN o < 0 then (m, [], (1 : Int)) else match m.insideB (oAt o) (oN o) with
        | true => (m, readB m.seen (oAt o) (oN o).toNat, 0)
        | false => (m, [], 31)) := (if_neg c0).trans (if_pos c1)
    rw [e]
    by_cases hn : oN o < 0
    · rw [if_pos hn]
      refine ⟨_, _, _, _, sread_arg m (oAt o) (oN o) hn, ⟨rfl, trivial⟩, rfl, ?_⟩
      exact ⟨_, _, _, Le.refl _ _, rfl, ⟨rfl, rfl, trivial⟩, ⟨rfl, trivial⟩, rfl⟩
    · rw [if_neg hn]
      cases hi : m.insideB (oAt o) (oN o) with
      | false =>
        refine ⟨_, _, _, _, sread_end m (oAt o) (oN o) (by omega) hi h.n0 h.n1, ⟨rfl, trivial⟩, rfl, ?_⟩
        exact ⟨_, _, _, Le.refl _ _, rfl, ⟨rfl, rfl, trivial⟩, ⟨rfl, trivial⟩, rfl⟩
      | true =>
        refine ⟨_, _, _, _, sread_ok m (oAt o) (oN o) (by omega) hi h.n0 h.n1 h.seen.wf, ⟨rfl, trivial⟩, rfl, ?_⟩
        exact ⟨_, _, _, Le.refl _ _, rfl, ⟨rfl, rfl, trivial⟩, ⟨rfl, trivial⟩, rfl⟩
  have c1 : oKind o ≠ 1 := of_decide_eq_false c1
  refine ⟨fun c2 => ?_, fun c2 => ?_⟩
  · have c2 : oKind o = 2 := of_decide_eq_true c2
    have e : m.op o = (m.flush, [], 0) := (if_neg c0).trans ((if_neg c1).trans (if_pos c2))
    rw [e]
    refine ⟨_, _, _, _, sflush_fn m, ⟨rfl, trivial⟩, rfl, ?_⟩
    exact ⟨_, _, _, Le.refl _ _, rfl, ⟨rfl, rfl, trivial⟩, ⟨rfl, trivial⟩, rfl⟩
  have c2 : oKind o ≠ 2 := of_decide_eq_false c2
  refine ⟨fun c3 => ?_, fun c3 => ?_⟩
  · have c3 : oKind o = 3 := of_decide_eq_true c3
    have e : m.op o = (m.crash (oKeep o), [], 0) := (if_neg c0).trans ((if_neg c1).trans ((if_neg c2).trans (if_pos c3)))
    rw [e]
    refine ⟨_, _, _, _, scrash_fn m (oKeep o) (by omega) (by omega) h.lw, ⟨rfl, trivial⟩, rfl, ?_⟩
    exact ⟨_, _, _, Le.refl _ _, rfl, ⟨rfl, rfl, trivial⟩, ⟨rfl, trivial⟩, rfl⟩
  have c3 : oKind o ≠ 3 := of_decide_eq_false c3
  refine ⟨fun c4 => ?_, fun c4 => ?_⟩
  · have c4 : oKind o = 4 := of_decide_eq_true c4
    have e : m.op o = (match srightN (oN o) with
        | true => (m.resize (oN o), [], 0)
        | false => (m, [], 1)) := (if_neg c0).trans ((if_neg c1).trans ((if_neg c2).trans ((if_neg c3).trans (if_pos c4))))
    rw [e]
    cases hr : srightN (oN o) with
    | true =>
      refine ⟨_, _, _, _, sresize_ok m (oN o) hr h.seen.nd, ⟨rfl, trivial⟩, rfl, ?_⟩
      exact ⟨_, _, _, Le.refl _ _, rfl, ⟨rfl, rfl, trivial⟩, ⟨rfl, trivial⟩, rfl⟩
    | false =>
      refine ⟨_, _, _, _, sresize_no m (oN o) hr, ⟨rfl, trivial⟩, rfl, ?_⟩
      exact ⟨_, _, _, Le.refl _ _, rfl, ⟨rfl, rfl, trivial⟩, ⟨rfl, trivial⟩, rfl⟩
  have c4 : oKind o ≠ 4 := of_decide_eq_false c4
  refine ⟨fun c5 => ?_, fun c5 => ?_⟩
  · have c5 : oKind o = 5 := of_decide_eq_true c5
    have e : m.op o = ({ m with room := max (oN o) 0 }, [], 0) := (if_neg c0).trans ((if_neg c1).trans ((if_neg c2).trans ((if_neg c3).trans ((if_neg c4).trans (if_pos c5)))))
    rw [e]
    refine ⟨_, _, _, _, sroom_fn m (oN o), ⟨rfl, trivial⟩, rfl, ?_⟩
    exact ⟨_, _, _, Le.refl _ _, rfl, ⟨rfl, rfl, trivial⟩, ⟨rfl, trivial⟩, rfl⟩
  have c5 : oKind o ≠ 5 := of_decide_eq_false c5
  have e : m.op o = (m, [], 0) := (if_neg c0).trans ((if_neg c1).trans ((if_neg c2).trans ((if_neg c3).trans ((if_neg c4).trans (if_neg c5)))))
  rw [e]
  exact ⟨_, _, _, Le.refl _ _, rfl, ⟨rfl, rfl, trivial⟩, ⟨rfl, trivial⟩, rfl⟩
end Go.Proofs.Ythghcdddambaeaa
