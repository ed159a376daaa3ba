/-
  Files over stores: the pool by stores' models; Remove; the law's stores.
-/
import Derived.Test.YthghcdddambaeaaFl
import Derived.Test.YthghcdddambaeaaSt2
import Derived.Test.YthghcdddambaeaaMo
import Derived.Test.YthghcdddambaeaaKs
import Derived.Test.YthghcdddambaeaaFn
set_option linter.unusedVariables false
set_option linter.unusedSimpArgs false
set_option maxRecDepth 10000
namespace Go.Proofs.Ythghcdddambaeaa
open Go.RowKit Go.Proofs
abbrev SPool := List (Nat × StM)
def poolS (L : SPool) : List (Nat × Ob) := L.map fun p => (p.1, stO p.2)
def sget : SPool → Nat → Option StM
  | [], _ => none
  | p :: L, b => if p.1 = b then some p.2 else sget L b
def sset : SPool → Nat → StM → SPool
  | [], _, _ => []
  | p :: L, b, m => if p.1 = b then (p.1, m) :: L else p :: sset L b m
theorem pget_poolS (b : Nat) : ∀ L : SPool, pget (poolS L) b = (sget L b).map stO
  | [] => rfl
  | p :: L => by
    show (if p.1 = b then some (stO p.2) else pget (poolS L) b) = _
    unfold sget
    split
    · rfl
    · exact pget_poolS b L
theorem pset_poolS (b : Nat) (m : StM) : ∀ L : SPool, pset (poolS L) b (stO m) = poolS (sset L b m)
  | [] => rfl
  | p :: L => by
    show (if p.1 = b then (p.1, stO m) :: poolS L else (p.1, stO p.2) :: pset (poolS L) b (stO m)) = _
    unfold sset
    split
    · rfl
    · rw [pset_poolS b m L]; rfl
@[reducible] def flS (c d q : Nat) (room : Int) (es : List (El .str × El .adr)) (L : SPool) : BL := flP c d q room es (poolS L)
@[reducible] def vAd (b : Nat) : SV := .c (.one (.d (.adr (some b))))
/-- A contract on a store, as one on one of the pool. -/
theorem poolFn {f : FuncId} {args : List SV} {res : SV} {m m' : StM} {L : SPool} {b : Nat} (h : Fn Try.prog f (vP 1001 :: args) [(1001, .obj (stO m))] [] res [(1001, .obj (stO m'))]) (hL : sget L b = some m)
    (h1 : (args.all fun v => !v.has 1001) = true) (h2 : (!res.has 1001) = true) : Fn Try.prog f (vAd b :: args) [(1003, .obj (.pool (poolS L)))] [] res [(1003, .obj (.pool (poolS (sset L b m'))))] := by
  have := (FnX.pool (c := 1001) (q := 1003) (b := b) (args := args) (Bi := []) (nw := []) (X := Unit) (res := fun _ => res) (Bo := fun _ => []) (o := stO m) (o' := fun _ => stO m') (L := poolS L) h.x (by rw [pget_poolS, hL]; rfl) h1 ⟨rfl, rfl⟩ rfl (fun _ => h2)).fn
  rw [pset_poolS] at this
  exact this
theorem fremove_fn (room : Int) (es : List (El .str × El .adr)) (name : List UInt8) : Fn Try.prog 77 [vP 1001, vS name] (flB 1001 1002 room es) [] (vI (match fget es name with | some _ => 0 | none => 40)) (flB 1001 1002 room (mdel es (name : El .str))) := by
  cases h : fget es name with
  | some b =>
    refine Fn.of tblOK [] _ _ _ _ _ Try.func77 rfl rfl (by kernel_rfl) (by kernel_rfl) rfl (drawOK tblOK) rfl ?_
    refine ⟨_, _, _, _, fopen_ok room es name b h, ⟨rfl, rfl, trivial⟩, rfl, ?_⟩
    exact ⟨_, _, _, Le.refl _ _, rfl, rfl, ⟨rfl, rfl, trivial⟩, rfl⟩
  | none =>
    refine Fn.of tblOK [] _ _ _ _ _ Try.func77 rfl rfl (by kernel_rfl) (by kernel_rfl) rfl (drawOK tblOK) rfl ?_
    refine ⟨_, _, _, _, fopen_no room es name h, ⟨rfl, rfl, trivial⟩, rfl, ?_⟩
    exact ⟨_, _, _, Le.refl _ _, rfl, rfl, ⟨rfl, rfl, trivial⟩, rfl⟩
/-- A call on a store. -/
@[reducible] def uO3 : U := .pr uI (.pr uI (.pr uI (.pr (.sl .u8) (.sl uI))))
abbrev Op3 := El uO3
@[reducible] def oKind (o : Op3) : Int := o.1
@[reducible] def oAt (o : Op3) : Int := o.2.1
@[reducible] def oN (o : Op3) : Int := o.2.2.1
@[reducible] def oB (o : Op3) : List UInt8 := o.2.2.2.1
@[reducible] def oKeep (o : Op3) : List Int := o.2.2.2.2
@[reducible] def op3L (o : Op3) : List S1 := [.d (.int .i64 (oKind o)), .d (.int .i64 (oAt o)), .d (.int .i64 (oN o)), .d (.lst .u8 (oB o)), .d (.lst uI (oKeep o))]
@[reducible] def op3V (o : Op3) : SV := .c (.agg (op3L o))
/-- What a store is as: its numbers, its maps' keys, its sectors. -/
structure MapOK (n : Int) (s : SMap) : Prop where
  nd : (keysI s).Nodup
  rg : ∀ k ∈ keysI s, 0 ≤ k ∧ k < n
  wf : WfS s
structure StOK (m : StM) : Prop where
  n0 : 0 ≤ m.n
  n1 : m.n ≤ 4096
  seen : MapOK m.n m.seen
  safe : MapOK m.n m.safe
  lr : ∀ w ∈ m.loose, 0 ≤ (show Int from w.1) ∧ (show Int from w.1) < m.n
  lw : ∀ w ∈ m.loose, WfX w.2
def eqP (k : Int) (p : El uI × El uX) : Bool := eqKey uI (k : El uI) p.1
def mkP (k : Int) (x : El uX) : El uI × El uX := (k, x)
def kP (p : El uI × El uX) : Int := p.1
def putI (s : SMap) (k : Int) (x : El uX) : SMap := mput s (k : El uI) x
theorem putI_nil (k : Int) (x : El uX) : putI [] k x = [mkP k x] := rfl
theorem putI_cons (p : El uI × El uX) (l : SMap) (k : Int) (x : El uX) : putI (p :: l) k x = match eqP k p with | true => mkP k x :: l | false => p :: putI l k x := rfl
theorem eqP_iff {k : Int} {p : El uI × El uX} : eqP k p = true ↔ k = kP p := eqKey_int _ _
theorem keysI_cons (p : El uI × El uX) (l : SMap) : keysI (p :: l) = kP p :: keysI l := rfl
theorem kP_mk (k : Int) (x : El uX) : kP (mkP k x) = k := rfl
theorem mem_keys_put {k : Int} {x : El uX} {j : Int} : ∀ {s : SMap}, j ∈ keysI (putI s k x) ↔ j = k ∨ j ∈ keysI s
  | [] => by rw [putI_nil, keysI_cons, kP_mk, List.mem_cons]
  | p :: s => by
    rw [putI_cons]
    cases e : eqP k p with
    | true =>
      rw [keysI_cons, keysI_cons, kP_mk, ← eqP_iff.1 e]
      simp
    | false =>
      simp only
      rw [keysI_cons, keysI_cons, List.mem_cons, List.mem_cons, mem_keys_put]
      constructor
      · rintro (h | h | h)
        · exact .inr (.inl h)
        · exact .inl h
        · exact .inr (.inr h)
      · rintro (h | h | h)
        · exact .inr (.inl h)
        · exact .inl h
        · exact .inr (.inr h)
theorem nodup_put {k : Int} {x : El uX} : ∀ {s : SMap}, (keysI s).Nodup → (keysI (putI s k x)).Nodup
  | [], _ => by rw [putI_nil, keysI_cons]; exact List.nodup_cons.2 ⟨fun h => (by cases h), List.nodup_nil⟩
  | p :: s, h => by
    rw [keysI_cons, List.nodup_cons] at h
    rw [putI_cons]
    cases e : eqP k p with
    | true =>
      simp only
      rw [keysI_cons, kP_mk, eqP_iff.1 e]
      exact List.nodup_cons.2 h
    | false =>
      have e : k ≠ kP p := fun hh => by rw [eqP_iff.2 hh] at e; cases e
      simp only
      rw [keysI_cons]
      refine List.nodup_cons.2 ⟨fun hm => ?_, nodup_put h.2⟩
      rcases mem_keys_put.1 hm with hh | hh
      · exact e hh.symm
      · exact h.1 hh
theorem wf_put {k : Int} {x : El uX} (hx : WfX x) : ∀ {s : SMap}, WfS s → WfS (putI s k x)
  | [], _ => fun p hp => by
    rw [putI_nil] at hp
    rcases List.mem_cons.1 hp with e | e
    · rw [e]; exact hx
    · cases e
  | q :: s, h => fun p hp => by
    rw [putI_cons] at hp
    split at hp
    · rcases List.mem_cons.1 hp with rfl | hp
      · exact hx
      · exact h p (List.mem_cons_of_mem _ hp)
    · rcases List.mem_cons.1 hp with rfl | hp
      · exact h _ (List.mem_cons_self ..)
      · exact wf_put hx (fun p hp => h p (List.mem_cons_of_mem _ hp)) p hp
theorem MapOK.put {n : Int} {s : SMap} (h : MapOK n s) {k : Int} {x : El uX} (h0 : 0 ≤ k) (h1 : k < n) (hx : WfX x) : MapOK n (mput s (k : El uI) x) :=
  ⟨nodup_put h.nd, fun j hj => by
    rcases mem_keys_put.1 hj with rfl | hj
    · exact ⟨h0, h1⟩
    · exact h.rg j hj, wf_put hx h.wf⟩
theorem MapOK.filter {n : Int} {s : SMap} (h : MapOK n s) (n' : Int) : MapOK n' (s.filter fun p => decide ((show Int from p.1) < n')) :=
  ⟨h.nd.sublist (List.filter_sublist.map _), fun k hk => by
    obtain ⟨p, hp, rfl⟩ := List.mem_map.1 hk
    obtain ⟨hp, hd⟩ := List.mem_filter.1 hp
    exact ⟨(h.rg _ (List.mem_map_of_mem hp)).1, of_decide_eq_true hd⟩, fun p hp => h.wf p (List.mem_filter.1 hp).1⟩
theorem MapOK.nil (n : Int) : MapOK n [] := ⟨List.nodup_nil, fun k h => (by cases h), fun p h => (by cases h)⟩
theorem nodup_bound : ∀ (n : Nat) (l : List Int), l.Nodup → (∀ k ∈ l, 0 ≤ k ∧ k < n) → l.length ≤ n
  | 0, [], _, _ => Nat.le_refl _
  | 0, k :: l, _, h => by have := h k (List.mem_cons_self ..); omega
  | n + 1, l, hn, h => by
    by_cases hm : (n : Int) ∈ l
    · have h1 := nodup_bound n (l.erase (n : Int)) (hn.erase _) fun k hk => by
        have hk2 := (List.Nodup.mem_erase_iff hn).1 hk
        have := h k hk2.2
        have := hk2.1
        omega
      rw [List.length_erase_of_mem hm] at h1
      omega
    · have := nodup_bound n l hn fun k hk => by
        have := h k hk
        have : k ≠ n := fun e => hm (e ▸ hk)
        omega
      omega
theorem MapOK.len {n : Int} {s : SMap} (h : MapOK n s) (h1 : n ≤ 4096) : s.length ≤ 4096 := by
  have := nodup_bound 4096 (keysI s) h.nd fun k hk => by have := h.rg k hk; omega
  rwa [show (keysI s).length = s.length from List.length_map _] at this
theorem StOK.new {n room : Int} (h : srightN n = true) : StOK ⟨n, room, [], [], []⟩ := by
  simp [srightN] at h
  exact ⟨h.1, h.2, MapOK.nil _, MapOK.nil _, fun w hw => (by cases hw), fun w hw => (by cases hw)⟩
theorem StOK.flush {m : StM} (h : StOK m) : StOK m.flush := ⟨h.n0, h.n1, h.seen, h.seen, fun w hw => (by cases hw), fun w hw => (by cases hw)⟩
theorem crashS_ok {n : Int} {keep : List Int} : ∀ {l : List (El uW)} {k : Nat} {s : SMap}, (∀ w ∈ l, 0 ≤ (show Int from w.1) ∧ (show Int from w.1) < n) → (∀ w ∈ l, WfX w.2) → MapOK n s → MapOK n (crashS keep k l s)
  | [], _, _, _, _, h => h
  | w :: l, k, s, h1, h2, h => by
    unfold crashS
    refine crashS_ok (fun v hv => h1 v (List.mem_cons_of_mem _ hv)) (fun v hv => h2 v (List.mem_cons_of_mem _ hv)) ?_
    split
    · exact h.put (h1 w (List.mem_cons_self ..)).1 (h1 w (List.mem_cons_self ..)).2 (h2 w (List.mem_cons_self ..))
    · exact h
theorem StOK.crash {m : StM} (h : StOK m) (keep : List Int) : StOK (m.crash keep) :=
  ⟨h.n0, h.n1, crashS_ok h.lr h.lw h.safe, crashS_ok h.lr h.lw h.safe, fun w hw => (by cases hw), fun w hw => (by cases hw)⟩
theorem StOK.resize {m : StM} (h : StOK m) {n : Int} (hn : srightN n = true) : StOK (m.resize n) := by
  simp [srightN] at hn
  exact ⟨hn.1, hn.2, h.seen.filter n, h.seen.filter n, fun w hw => (by cases hw), fun w hw => (by cases hw)⟩
theorem StOK.room {m : StM} (h : StOK m) (r : Int) : StOK { m with room := r } := ⟨h.n0, h.n1, h.seen, h.safe, h.lr, h.lw⟩
theorem wrS_ok {n at_ : Int} {b : List UInt8} (h0 : 0 ≤ at_) {s : SMap} (h : MapOK n s) : ∀ k : Nat, at_ + k ≤ n → 16 * k ≤ b.length → MapOK n (wrS at_ b s k)
  | 0, _, _ => h
  | k + 1, h1, h2 => (wrS_ok h0 h k (by omega) (by omega)).put (by omega) (by omega) (chunk_wf h2)
theorem wrL_mem {at_ : Int} {b : List UInt8} {l : List (El uW)} {w : El uW} : ∀ k : Nat, w ∈ wrL at_ b l k → w ∈ l ∨ ∃ i, i < k ∧ w = mkW (at_ + (i : Nat)) (chunk b i)
  | 0, h => .inl h
  | k + 1, h => by
    rcases List.mem_append.1 h with h | h
    · rcases wrL_mem k h with h | ⟨i, hi, e⟩
      · exact .inl h
      · exact .inr ⟨i, by omega, e⟩
    · rw [List.mem_singleton] at h
      exact .inr ⟨k, by omega, h⟩
theorem StOK.write {m : StM} (h : StOK m) (at_ : Int) (b : List UInt8) : StOK (m.write at_ b).1 := by
  unfold StM.write
  split
  · exact h
  · split
    · exact h
    · rename_i hi
      simp only [StM.insideB, Bool.and_eq_true, decide_eq_true_eq] at hi
      obtain ⟨⟨i1, i2⟩, i3⟩ := hi
      split
      · exact h
      · refine ⟨h.n0, h.n1, wrS_ok i1 h.seen _ (by show at_ + _ ≤ m.n; omega) (by omega), h.safe, fun w hw => ?_, fun w hw => ?_⟩
        · rcases wrL_mem _ hw with hw | ⟨i, hi, rfl⟩
          · exact h.lr w hw
          · show 0 ≤ at_ + (i : Nat) ∧ at_ + (i : Nat) < m.n
            omega
        · rcases wrL_mem _ hw with hw | ⟨i, hi, rfl⟩
          · exact h.lw w hw
          · exact chunk_wf (by omega)
/-! ### a call on a store, as the laws make it -/
def StM.op (m : StM) (o : Op3) : StM × List UInt8 × Int :=
  if oKind o = 0 then ((m.write (oAt o) (oB o)).1, [], (m.write (oAt o) (oB o)).2)
  else if oKind o = 1 then (if oN o < 0 then (m, [], 1) else match m.insideB (oAt o) (oN o) with
    | true => (m, readB m.seen (oAt o) (oN o).toNat, 0)
    | false => (m, [], 31))
  else if oKind o = 2 then (m.flush, [], 0)
  else if oKind o = 3 then (m.crash (oKeep o), [], 0)
  else if oKind o = 4 then (match srightN (oN o) with
    | true => (m.resize (oN o), [], 0)
    | false => (m, [], 1))
  else if oKind o = 5 then ({ m with room := max (oN o) 0 }, [], 0)
  else (m, [], 0)
theorem StOK.op {m : StM} (h : StOK m) (o : Op3) : StOK (m.op o).1 := by
  unfold StM.op
  split
  · exact h.write _ _
  split
  · split
    · exact h
    · split <;> exact h
  split
  · exact h.flush
  split
  · exact h.crash _
  split
  · split
    · rename_i e; exact h.resize e
    · exact h
  split
  · exact h.room _
  · exact h
theorem stores_fn (m : StM) (o : Op3) (h : StOK m) (hb : (oB o).length ≤ 1073741824) (hk : (oKeep o).length ≤ 1073741824) (hl : m.loose.length ≤ 1073741824) :
    Fn Try.prog 52 [vP 1001, op3V o] [(1001, .obj (stO m))] [] (.tup [.one (.d (.str (m.op o).2.1)), vErr (m.op o).2.2]) [(1001, .obj (stO (m.op o).1))] := by
  refine Fn.of tblOK [] _ _ _ _ _ Try.func52 rfl rfl (by kernel_rfl) (by kernel_rfl) rfl (drawOK tblOK) rfl ?_
  refine ⟨rfl, ?_⟩
  refine ⟨fun c0 => ?_, fun c0 => ?_⟩
  · have c0 : oKind o = 0 := of_decide_eq_true c0
    have e : m.op o = ((m.write (oAt o) (oB o)).1, [], (m.write (oAt o) (oB o)).2) := if_pos c0
    rw [e]
    refine ⟨_, _, _, _, swrite_fn m (oAt o) (oB o) hb h.n0 h.n1 (h.seen.len h.n1) h.seen.wf hl, ⟨rfl, trivial⟩, rfl, ?_⟩
    exact ⟨_, _, _, Le.refl _ _, rfl, ⟨rfl, rfl, trivial⟩, ⟨rfl, trivial⟩, rfl⟩
  have c0 : oKind o ≠ 0 := of_decide_eq_false c0
  refine ⟨fun c1 => ?_, fun c1 => ?_⟩
  · have c1 : oKind o = 1 := of_decide_eq_true c1
    have e : m.op o = (if oN o < 0 then (m, [], (1 : Int)) else match m.insideB (oAt o) (oN o) with
        | true => (m, readB m.seen (oAt o) (oN o).toNat, 0)
        | false => (m, [], 31)) := (if_neg c0).trans (if_pos c1)
    rw [e]
    by_cases hn : oN o < 0
    · rw [if_pos hn]
      refine ⟨_, _, _, _, sread_arg m (oAt o) (oN o) hn, ⟨rfl, trivial⟩, rfl, ?_⟩
      exact ⟨_, _, _, Le.refl _ _, rfl, ⟨rfl, rfl, trivial⟩, ⟨rfl, trivial⟩, rfl⟩
    · rw [if_neg hn]
      cases hi : m.insideB (oAt o) (oN o) with
      | false =>
        refine ⟨_, _, _, _, sread_end m (oAt o) (oN o) (by omega) hi h.n0 h.n1, ⟨rfl, trivial⟩, rfl, ?_⟩
        exact ⟨_, _, _, Le.refl _ _, rfl, ⟨rfl, rfl, trivial⟩, ⟨rfl, trivial⟩, rfl⟩
      | true =>
        refine ⟨_, _, _, _, sread_ok m (oAt o) (oN o) (by omega) hi h.n0 h.n1 h.seen.wf, ⟨rfl, trivial⟩, rfl, ?_⟩
        exact ⟨_, _, _, Le.refl _ _, rfl, ⟨rfl, rfl, trivial⟩, ⟨rfl, trivial⟩, rfl⟩
  have c1 : oKind o ≠ 1 := of_decide_eq_false c1
  refine ⟨fun c2 => ?_, fun c2 => ?_⟩
  · have c2 : oKind o = 2 := of_decide_eq_true c2
    have e : m.op o = (m.flush, [], 0) := (if_neg c0).trans ((if_neg c1).trans (if_pos c2))
    rw [e]
    refine ⟨_, _, _, _, sflush_fn m, ⟨rfl, trivial⟩, rfl, ?_⟩
    exact ⟨_, _, _, Le.refl _ _, rfl, ⟨rfl, rfl, trivial⟩, ⟨rfl, trivial⟩, rfl⟩
  have c2 : oKind o ≠ 2 := of_decide_eq_false c2
  refine ⟨fun c3 => ?_, fun c3 => ?_⟩
  · have c3 : oKind o = 3 := of_decide_eq_true c3
    have e : m.op o = (m.crash (oKeep o), [], 0) := (if_neg c0).trans ((if_neg c1).trans ((if_neg c2).trans (if_pos c3)))
    rw [e]
    refine ⟨_, _, _, _, scrash_fn m (oKeep o) (by omega) (by omega) h.lw, ⟨rfl, trivial⟩, rfl, ?_⟩
    exact ⟨_, _, _, Le.refl _ _, rfl, ⟨rfl, rfl, trivial⟩, ⟨rfl, trivial⟩, rfl⟩
  have c3 : oKind o ≠ 3 := of_decide_eq_false c3
  refine ⟨fun c4 => ?_, fun c4 => ?_⟩
  · have c4 : oKind o = 4 := of_decide_eq_true c4
    have e : m.op o = (match srightN (oN o) with
        | true => (m.resize (oN o), [], 0)
        | false => (m, [], 1)) := (if_neg c0).trans ((if_neg c1).trans ((if_neg c2).trans ((if_neg c3).trans (if_pos c4))))
    rw [e]
    cases hr : srightN (oN o) with
    | true =>
      refine ⟨_, _, _, _, sresize_ok m (oN o) hr h.seen.nd, ⟨rfl, trivial⟩, rfl, ?_⟩
      exact ⟨_, _, _, Le.refl _ _, rfl, ⟨rfl, rfl, trivial⟩, ⟨rfl, trivial⟩, rfl⟩
    | false =>
      refine ⟨_, _, _, _, sresize_no m (oN o) hr, ⟨rfl, trivial⟩, rfl, ?_⟩
      exact ⟨_, _, _, Le.refl _ _, rfl, ⟨rfl, rfl, trivial⟩, ⟨rfl, trivial⟩, rfl⟩
  have c4 : oKind o ≠ 4 := of_decide_eq_false c4
  refine ⟨fun c5 => ?_, fun c5 => ?_⟩
  · have c5 : oKind o = 5 := of_decide_eq_true c5
    have e : m.op o = ({ m with room := max (oN o) 0 }, [], 0) := (if_neg c0).trans ((if_neg c1).trans ((if_neg c2).trans ((if_neg c3).trans ((if_neg c4).trans (if_pos c5)))))
    rw [e]
    refine ⟨_, _, _, _, sroom_fn m (oN o), ⟨rfl, trivial⟩, rfl, ?_⟩
    exact ⟨_, _, _, Le.refl _ _, rfl, ⟨rfl, rfl, trivial⟩, ⟨rfl, trivial⟩, rfl⟩
  have c5 : oKind o ≠ 5 := of_decide_eq_false c5
  have e : m.op o = (m, [], 0) := (if_neg c0).trans ((if_neg c1).trans ((if_neg c2).trans ((if_neg c3).trans ((if_neg c4).trans (if_neg c5)))))
  rw [e]
  exact ⟨_, _, _, Le.refl _ _, rfl, ⟨rfl, rfl, trivial⟩, ⟨rfl, trivial⟩, rfl⟩
/-! Files: Crash. -/
@[reducible] def uK : U := .pr .str (.sl uI)
abbrev Kp := El uK
@[reducible] def kNm (k : Kp) : List UInt8 := k.1
@[reducible] def kL (k : Kp) : List Int := k.2
/-- Where a name stands; what is kept of it. -/
def kpIx (ks : List Kp) (nm : List UInt8) : Option Nat := ks.findIdx? fun k => decide (kNm k = nm)
def kpI (ks : List Kp) (nm : List UInt8) : Int := match kpIx ks nm with
  | some i => (i : Nat)
  | none => -1
def keepOf (ks : List Kp) (nm : List UInt8) : List Int := match kpIx ks nm with
  | some i => match ks[i]? with
    | some k => kL k
    | none => []
  | none => []
theorem kpc_fn (k : Kp) (nm : List UInt8) : Fn Try.prog 121 [.c (.agg [.d (.str (kNm k)), .d (.lst uI (kL k))]), vP 1001] [(1001, .cells [.d (.str nm)])] [] (vB (decide (kNm k = nm))) [(1001, .cells [.d (.str nm)])] := by
  refine Fn.of tblOK [] _ _ _ _ _ Try.func121 rfl rfl (by kernel_rfl) (by kernel_rfl) rfl (drawOK tblOK) rfl ?_
  refine ⟨rfl, ?_⟩
  exact ⟨_, _, _, Le.refl _ _, rfl, rfl, ⟨rfl, trivial⟩, rfl⟩
theorem kpIx_fn (ks : List Kp) (nm : List UInt8) (hl : ks.length ≤ 4294967296) :
    Fn Try.prog 120 [vL uK ks, v1 (.clo 121 [.p 1001 0])] [(1001, .cells [.d (.str nm)])] [] (vI (kpI ks nm)) [(1001, .cells [.d (.str nm)])] := by
  refine Fn.of tblOK [] _ _ _ _ _ Try.func120 rfl rfl (by kernel_rfl) (by kernel_rfl) rfl (drawOK tblOK) rfl ?_
  show TrQ _ _ _ _ _ _ _
  refine TrQ.loop tblOK (drawOK tblOK) [] (by kernel_rfl) (X := Nat) (fun k => [(0, vL uK ks), (1, v1 (.clo 121 [.p 1001 0])), (7, vI (ks.length : Nat)), (8, vI (k : Nat))]) (fun _ => [(1001, .cells [.d (.str nm)])]) (fun k => k ≤ ks.length ∧ ∀ (i : Nat) x, i < k → ks[i]? = some x → kNm x ≠ nm) (fun k => ks.length - k) 0 ⟨Nat.zero_le _, fun i x h => absurd h (Nat.not_lt_zero _)⟩ ?_ ?_
  · exact Le.sub ⟨rfl, rfl, rfl, rfl, trivial⟩ ⟨rfl, trivial⟩
  rintro k ⟨hk, hp⟩
  refine ⟨fun h => ?_, fun h => ?_⟩
  · have hk1 : k < ks.length := by
      have h : decide ((k : Int) < (ks.length : Int)) = true := h
      simpa using h
    refine ⟨by omega, ks[k], lgAt (n := k) hk1, ?_⟩
    refine ⟨_, _, _, _, kpc_fn ks[k] nm, ⟨rfl, trivial⟩, rfl, ?_⟩
    refine ⟨fun h2 => ?_, fun h2 => ?_⟩
    · have h2 : kNm ks[k] = nm := of_decide_eq_true h2
      refine ⟨_, _, _, Le.refl _ _, rfl, (show ((k : Nat) : Int) = kpI ks nm from ?_), ⟨rfl, trivial⟩, rfl⟩
      have : kpIx ks nm = some k := by
        rw [kpIx, List.findIdx?_eq_some_iff_getElem]
        refine ⟨hk1, by simp [h2], fun j hj => ?_⟩
        have := hp j _ hj (List.getElem?_eq_getElem (by omega))
        simpa using this
      rw [kpI, this]
    · have h2 : kNm ks[k] ≠ nm := of_decide_eq_false h2
      refine ⟨by omega, k + 1, ⟨by omega, fun i x hi hx => ?_⟩, by omega, Le.sub ⟨rfl, rfl, rfl, rfl, trivial⟩ ⟨rfl, trivial⟩⟩
      rcases Nat.lt_or_ge i k with h4 | h4
      · exact hp i x h4 hx
      · have : i = k := by omega
        subst this
        rw [List.getElem?_eq_getElem hk1] at hx
        injection hx with hx
        rw [← hx]; exact h2
  · have hk2 : k = ks.length := by
      have h : decide ((k : Int) < (ks.length : Int)) = false := h
      simp at h; omega
    refine ⟨_, _, _, Le.refl _ _, rfl, (show (-1 : Int) = kpI ks nm from ?_), ⟨rfl, trivial⟩, rfl⟩
    have : kpIx ks nm = none := by
      rw [kpIx, List.findIdx?_eq_none_iff]
      intro x hx
      obtain ⟨i, hi, rfl⟩ := List.getElem_of_mem hx
      have := hp i _ (by omega) (List.getElem?_eq_getElem hi)
      simpa using this
    rw [kpI, this]
/-! ### the pool, turned address by address -/
theorem sget_cons (p : Nat × StM) (L : SPool) (b : Nat) : sget (p :: L) b = if p.1 = b then some p.2 else sget L b := rfl
def mapP (f : Nat → StM → StM) (L : SPool) : SPool := L.map fun q => (q.1, f q.1 q.2)
theorem sget_mapP (f : Nat → StM → StM) (a : Nat) : ∀ L : SPool, sget (mapP f L) a = (sget L a).map (f a)
  | [] => rfl
  | p :: L => by
    show (if p.1 = a then some (f p.1 p.2) else sget (mapP f L) a) = _
    rw [sget_cons]
    split
    · rename_i e; rw [e]; rfl
    · exact sget_mapP f a L
theorem mapP_congr {f g : Nat → StM → StM} {L : SPool} (h : ∀ p ∈ L, f p.1 p.2 = g p.1 p.2) : mapP f L = mapP g L := List.map_congr_left fun p hp => by rw [h p hp]
theorem sset_mapP {f g : Nat → StM → StM} {a : Nat} {m' : StM} : ∀ {L : SPool}, (L.map (·.1)).Nodup → ∀ {m : StM}, sget L a = some m → g a m = m' → (∀ b, b ≠ a → ∀ m, g b m = f b m) → sset (mapP f L) a m' = mapP g L
  | [], _, m, h, _, _ => by cases h
  | p :: L, hn, m, h, h1, h2 => by
    rw [List.map_cons, List.nodup_cons] at hn
    show (if p.1 = a then (p.1, m') :: mapP f L else (p.1, f p.1 p.2) :: sset (mapP f L) a m') = (p.1, g p.1 p.2) :: mapP g L
    rw [sget_cons] at h
    split at h
    · rename_i e
      injection h with h
      rw [if_pos e, ← h1, ← h, e]
      congr 1
      refine mapP_congr fun q hq => (h2 _ (fun e2 => hn.1 ?_) _).symm
      rw [e, ← e2]
      exact List.mem_map_of_mem hq
    · rename_i e
      rw [if_neg e, sset_mapP hn.2 h h1 h2, h2 _ e]
theorem kpI_neg {ks : List Kp} {nm : List UInt8} (h : kpI ks nm < 0) : keepOf ks nm = [] := by
  unfold keepOf
  unfold kpI at h
  cases e : kpIx ks nm with
  | none => rfl
  | some i => rw [e] at h; simp only at h; omega
theorem kpI_pos {ks : List Kp} {nm : List UInt8} (h : ¬ kpI ks nm < 0) : ∃ (i : Nat) (hi : i < ks.length), kpI ks nm = (i : Nat) ∧ keepOf ks nm = kL ks[i] := by
  unfold keepOf
  unfold kpI at h ⊢
  cases e : kpIx ks nm with
  | none => rw [e] at h; simp only at h; omega
  | some i =>
    have h1 : i < ks.length := by
      rw [kpIx, List.findIdx?_eq_some_iff_getElem] at e
      exact e.1
    refine ⟨i, h1, rfl, ?_⟩
    simp only
    rw [List.getElem?_eq_getElem h1]
/-! ### Crash -/
abbrev EnA := Nat × (El .str × El .adr)
def eK (e : EnA) : List UInt8 := e.2.1
def eA (e : EnA) : Option Nat := e.2.2
/-- What a crash makes of the store at an address, behind some of the rounds. -/
def crF (ks : List Kp) (l : List EnA) (seen : List Nat) (a : Nat) (m : StM) : StM := match l.find? fun e => decide (eA e = some a) with
  | some e => match seen.contains e.1 with
    | true => m.crash (keepOf ks (eK e))
    | false => m
  | none => m
def pK (p : El .str × El .adr) : List UInt8 := p.1
def pA (p : El .str × El .adr) : Option Nat := p.2
def crE (ks : List Kp) (es : List (El .str × El .adr)) (a : Nat) (m : StM) : StM := match es.find? fun p => decide (pA p = some a) with
  | some p => m.crash (keepOf ks (pK p))
  | none => m
theorem crF_all {ks : List Kp} {l : List EnA} {seen : List Nat} (h : ∀ e ∈ l, e.1 ∈ seen) (a : Nat) (m : StM) : crF ks l seen a m = crE ks (l.map (·.2)) a m := by
  unfold crF crE
  rw [List.find?_map]
  show _ = match Option.map (·.2) (l.find? fun e => decide (eA e = some a)) with
    | some p => m.crash (keepOf ks (pK p))
    | none => m
  cases e : l.find? fun e => decide (eA e = some a) with
  | none => rfl
  | some x =>
    have := h x (List.mem_of_find?_eq_some e)
    simp [this]
    rfl
/-- Who has which address; what the stores are as. -/
structure PoolOK (es : List (El .str × El .adr)) (L : SPool) (W : Nat) : Prop where
  ex : ∀ p ∈ es, ∃ a, pA p = some a ∧ a ∈ L.map (·.1)
  nd : (es.map pA).Nodup
  nl : (L.map (·.1)).Nodup
  ok : ∀ p ∈ L, StOK p.2
  few : ∀ p ∈ L, p.2.loose.length ≤ W
theorem sget_mem {a : Nat} {m : StM} : ∀ {L : SPool}, sget L a = some m → (a, m) ∈ L
  | [], h => by cases h
  | p :: L, h => by
    rw [sget_cons] at h
    split at h
    · rename_i e
      injection h with h
      rw [← e, ← h]
      exact List.mem_cons_self ..
    · exact List.mem_cons_of_mem _ (sget_mem h)
theorem sget_of_mem {a : Nat} : ∀ {L : SPool}, a ∈ L.map (·.1) → ∃ m, sget L a = some m
  | [], h => by cases h
  | p :: L, h => by
    rw [sget_cons]
    split
    · exact ⟨_, rfl⟩
    · rename_i e
      rcases List.mem_cons.1 h with h | h
      · exact absurd h.symm e
      · exact sget_of_mem h
theorem find_addr {l : List EnA} (hn : (l.map eA).Nodup) {e : EnA} (he : e ∈ l) {a : Nat} (ha : eA e = some a) : (l.find? fun x => decide (eA x = some a)) = some e := by
  cases h : l.find? fun x => decide (eA x = some a) with
  | none =>
    have := List.find?_eq_none.1 h e he
    simp [ha] at this
  | some x =>
    have h1 := List.find?_some h
    have h2 := List.mem_of_find?_eq_some h
    have h1 : eA x = some a := by simpa using h1
    rw [nodup_key hn h2 he (h1.trans ha.symm)]
@[reducible] def fcK (ks : List Kp) : KL := [(0, vP 1001), (1, vL uK ks), (11, vP 11)]
@[reducible] def fcB (room : Int) (b clock : Nat) (seen : List Nat) (l : List EnA) (L : SPool) : BL := [(1001, .cells [.d (.int .i64 room), .mp 1002]), (1002, .obj (.mapG b .str .adr l clock)), (11, .obj (.iterG b clock seen clock)), (1003, .obj (.pool (poolS L)))]
def unseenA (seen : List Nat) (l : List EnA) : List EnA := l.filter fun p => !seen.contains p.1
theorem unseenA_lt {seen : List Nat} {l : List EnA} {p : EnA} (hp : p ∈ l) (hn : p.1 ∉ seen) : (unseenA (seen ++ [p.1]) l).length < (unseenA seen l).length := by
  have e : unseenA (seen ++ [p.1]) l = (unseenA seen l).filter fun q => !decide (q.1 = p.1) := by
    unfold unseenA
    rw [List.filter_filter]
    refine List.filter_congr fun q _ => ?_
    by_cases e : q.1 = p.1 <;> simp [e]
  rw [e]
  have hm : p ∈ unseenA seen l := List.mem_filter.2 ⟨hp, by simp [hn]⟩
  exact List.length_filter_lt_length_iff_exists.2 ⟨p, hm, by simp⟩
set_option maxHeartbeats 1000000 in
theorem fcrash_fn (room : Int) (es : List (El .str × El .adr)) (L : SPool) (W : Nat) (ks : List Kp) (h : PoolOK es L W) (hW : W ≤ 1073741824) (hk : ks.length ≤ 1073741824) (hkl : ∀ k ∈ ks, (kL k).length ≤ 1073741824) :
    Fn Try.prog 89 [vP 1001, vL uK ks] (flS 1001 1002 1003 room es L) [] vU (flS 1001 1002 1003 room es (mapP (crE ks es) L)) := by
  refine Fn.of tblOK [0] _ _ _ _ _ Try.func89 rfl rfl (by kernel_rfl) (by kernel_rfl) rfl (drawOK tblOK) rfl ?_
  show TrQ _ _ _ _ _ _ _
  refine TrQ.leX (LeX.nameMap 1002 rfl) fun x => ?_
  obtain ⟨b, l, clock, hsnd, hrise, hlt⟩ := x
  refine TrQ.go tblOK (drawOK tblOK) [] (by kernel_rfl) (Le.refl _ _) ?_
  refine ⟨_, _, fun N => opOK_range (d := 11) rfl Try.underlying135 rfl rfl N, rfl, ?_⟩
  show TrQ _ _ _ _ _ _ _
  have hb : (l.map (·.1)).Nodup := hrise.imp fun h => by omega
  have hnd : (l.map eA).Nodup := by
    have := h.nd
    rw [← hsnd, List.map_map] at this
    exact this
  refine TrQ.loop tblOK (drawOK tblOK) [1] (by kernel_rfl) (X := List Nat) (fun _ => fcK ks) (fun seen => fcB room b clock seen l (mapP (crF ks l seen) L)) (fun _ => True) (fun seen => (unseenA seen l).length) [] trivial ?_ ?_
  · refine Le.sub ⟨rfl, rfl, rfl, trivial⟩ ⟨rfl, rfl, rfl, ?_, trivial⟩
    have : mapP (crF ks l []) L = L := by
      have : ∀ p : Nat × StM, (p.1, crF ks l [] p.1 p.2) = p := fun p => by
        unfold crF
        split <;> rfl
      unfold mapP
      simp only [this]
      exact List.map_id' L
    rw [this]
    rfl
  intro seen _
  show TrQ _ _ _ _ _ _ _
  refine TrQ.regionX tblOK (by kernel_rfl) ?_
  refine ⟨_, opS_next (c := 1002) (r := 11) rfl rfl rfl rfl (fun p hp => hlt _ (List.mem_map_of_mem hp)) (Nat.le_refl _), fun v e hv => ?_⟩
  rcases hv with ⟨p, hp, hs, rfl, rfl⟩ | ⟨hall, rfl, rfl⟩
  · have hpe : p.2 ∈ es := by rw [← hsnd]; exact List.mem_map_of_mem hp
    obtain ⟨a, ha, haL⟩ := h.ex _ hpe
    obtain ⟨m, hm⟩ := sget_of_mem haL
    have hmem := sget_mem hm
    have hfind := find_addr hnd hp (a := a) ha
    have hcur : crF ks l seen a m = m := by
      unfold crF
      rw [hfind]
      simp [hs]
    have hget : sget (mapP (crF ks l seen) L) a = some m := by rw [sget_mapP, hm, Option.map_some, hcur]
    have hset : sset (mapP (crF ks l seen) L) a (m.crash (keepOf ks (eK p))) = mapP (crF ks l (seen ++ [p.1])) L := by
      refine sset_mapP h.nl hm ?_ ?_
      · unfold crF
        rw [hfind]
        simp
      · intro b' hb' m'
        unfold crF
        cases e : l.find? fun e => decide (eA e = some b') with
        | none => rfl
        | some y =>
          have h1 : eA y = some b' := by simpa using List.find?_some e
          have hne : y.1 ≠ p.1 := fun e2 => by
            have := nodup_key hb (List.mem_of_find?_eq_some e) hp e2
            rw [this] at h1
            exact hb' (Option.some.inj (h1.symm.trans ha))
          simp [hne]
    have hst := h.ok _ hmem
    have hlo := h.few _ hmem
    obtain ⟨pb, pk, pa⟩ := p
    have ha : pa = some a := ha
    subst ha
    refine ⟨_, _, fun N => opOK_entry (c := 1002) (r := 11) rfl rfl rfl rfl hp N, rfl, ?_⟩
    refine ⟨rfl, ?_⟩
    refine ⟨_, _, _, _, Fn.ren [(1001, 4)] (kpIx_fn ks pk (by omega)), ⟨rfl, trivial⟩, rfl, ?_⟩
    refine ⟨fun h2 => ?_, fun h2 => ?_⟩
    · have h2 : kpI ks pk < 0 := of_decide_eq_true h2
      have hke : keepOf ks pk = [] := kpI_neg h2
      refine ⟨_, _, _, _, Fn.arg (poolFn (scrash_fn m [] (by simp) (by have := hlo; simp only at this; omega) hst.lw) hget rfl rfl) ⟨rfl, rfl, trivial⟩, ⟨rfl, trivial⟩, rfl, ?_⟩
      refine ⟨seen ++ [pb], trivial, unseenA_lt hp hs, Le.sub ⟨rfl, rfl, rfl, trivial⟩ ⟨rfl, rfl, rfl, ?_, trivial⟩⟩
      rw [← hset]
      show _ = some (Ch.obj (Ob.pool (poolS (sset _ a (m.crash (keepOf ks pk))))))
      rw [hke]
      rfl
    · have h2 : ¬ kpI ks pk < 0 := of_decide_eq_false h2
      obtain ⟨i, hi, ei, hke⟩ := kpI_pos h2
      refine ⟨by omega, ks[i], (by rw [show (kpI ks pk).toNat = i by omega]; exact lgAt (n := i) hi), ?_⟩
      refine ⟨_, _, _, _, poolFn (scrash_fn m (kL ks[i]) (by have := hkl _ (List.getElem_mem hi); omega) (by have := hlo; simp only at this; omega) hst.lw) hget rfl rfl, ⟨rfl, trivial⟩, rfl, ?_⟩
      refine ⟨seen ++ [pb], trivial, unseenA_lt hp hs, Le.sub ⟨rfl, rfl, rfl, trivial⟩ ⟨rfl, rfl, rfl, ?_, trivial⟩⟩
      rw [← hset]
      show _ = some (Ch.obj (Ob.pool (poolS (sset _ a (m.crash (keepOf ks pk))))))
      rw [hke]
      rfl
  · refine ⟨_, _, _, Le.mapOf 1002 rfl, rfl, trivial, ⟨rfl, ?_, ?_, trivial⟩, rfl⟩
    · show some (Ch.map .str .adr (l.map (·.2))) = _
      rw [hsnd]
    · show some (Ch.obj (Ob.pool (poolS (mapP (crF ks l seen) L)))) = _
      rw [mapP_congr (g := crE ks es) fun q _ => by rw [crF_all hall, hsnd]]
/-! Files: Copy. -/
theorem sset_same {b : Nat} {m : StM} : ∀ {L : SPool}, sget L b = some m → sset L b m = L
  | [], h => by cases h
  | p :: L, h => by
    rw [sget_cons] at h
    show (if p.1 = b then (p.1, m) :: L else p :: sset L b m) = _
    split at h
    · rename_i e
      injection h with h
      rw [if_pos e, ← h]
    · rename_i e
      rw [if_neg e, sset_same h]
theorem poolCopy {m : StM} {L : SPool} {b : Nat} (hL : sget L b = some m) (hl : m.loose.length ≤ 4294967296) : Fn Try.prog 102 [vAd b] [(1003, .obj (.pool (poolS L)))] [2001] (vP 2001) [(1003, .obj (.pool (poolS L))), (2001, .obj (stO m))] := by
  have := (FnX.pool (c := 1001) (q := 1003) (b := b) (args := []) (Bi := []) (nw := [2001]) (X := Unit) (res := fun _ => vP 2001) (Bo := fun _ => [(2001, .obj (stO m))]) (o := stO m) (o' := fun _ => stO m) (L := poolS L) (scopy_fn m hl).x (by rw [pget_poolS, hL]; rfl) rfl ⟨rfl, rfl⟩ rfl (fun _ => rfl)).fn
  rw [pset_poolS, sset_same hL] at this
  exact this
/-- The store at an address. -/
def stD : StM := ⟨0, 0, [], [], []⟩
def stAt (L : SPool) : Option Nat → StM
  | some a => (sget L a).getD stD
  | none => stD
def cpO (L : SPool) (d : List (El .str × El .adr)) : List (El .str × Ob) := d.map fun p => (p.1, stO (stAt L (pA p)))
theorem eqKey_str (a b : List UInt8) : (eqKey .str (a : El .str) (b : El .str) = true) ↔ a = b := by
  show eqS a b = true ↔ a = b
  unfold eqS
  exact decide_eq_true_iff
@[reducible] def mkE (b : Nat) (k : El .str) (a : Nat) : EnA := (b, k, (some a : Option Nat))
@[reducible] def fyK : KL := [(0, vP 1001), (3, vP 12), (17, vP 17)]
@[reducible] def fyB (room : Int) (b clock : Nat) (done l : List EnA) (L : SPool) : BL := [(1001, .cells [.d (.int .i64 room), .mp 1002]), (1002, .obj (.mapG b .str .adr l clock)), (17, .obj (.iterG b clock (done.map (·.1)) clock)), (1003, .obj (.pool (poolS L))), (12, .cells [.d (.int .i64 room), .mp 10]), (10, .obj (.mapO .str (cpO L (done.map (·.2)))))]
structure DoneOK (l done : List EnA) : Prop where
  sub : ∀ e ∈ done, e ∈ l
  nd : (done.map (·.1)).Nodup
theorem fcopy_fn (room : Int) (es : List (El .str × El .adr)) (L : SPool) (W : Nat) (h : PoolOK es L W) (hn : (mkeys es).Nodup) (hW : W ≤ 1073741824) :
    FnX Try.prog 50 [vP 1001] (flS 1001 1002 1003 room es L) [2001, 2002] (X := { d : List (El .str × El .adr) // d.Perm es }) (fun _ => vP 2001)
      (fun d => flS 1001 1002 1003 room es L ++ [(2001, .cells [.d (.int .i64 room), .mp 2002]), (2002, .obj (.mapO .str (cpO L d.1)))]) := by
  refine FnX.of tblOK [2] _ _ _ _ _ Try.func50 rfl rfl (by kernel_rfl) (by kernel_rfl) rfl (drawOK tblOK) rfl ?_
  refine ⟨rfl, ?_⟩
  refine ⟨rfl, ?_⟩
  show TrQ _ _ _ _ _ _ _
  refine TrQ.leX (LeX.nameMap 1002 rfl) fun x => ?_
  obtain ⟨b, l, clock, hsnd, hrise, hlt⟩ := x
  refine TrQ.go tblOK (drawOK tblOK) [] (by kernel_rfl) (Le.refl _ _) ?_
  refine ⟨_, _, fun N => opOK_range (d := 17) rfl Try.underlying135 rfl rfl N, rfl, ?_⟩
  show TrQ _ _ _ _ _ _ _
  have hb : (l.map (·.1)).Nodup := hrise.imp fun h => by omega
  have hke : (l.map eK).Nodup := by
    rw [← hsnd] at hn
    unfold mkeys at hn
    rw [List.map_map] at hn
    exact hn
  refine TrQ.loop tblOK (drawOK tblOK) [3] (by kernel_rfl) (X := List EnA) (fun _ => fyK) (fun done => fyB room b clock done l L) (DoneOK l) (fun done => (unseenA (done.map (·.1)) l).length) [] ⟨fun e he => (by cases he), List.nodup_nil⟩ ?_ ?_
  · exact Le.trans (Le.emptyMapO 10 rfl) (Le.sub ⟨rfl, rfl, rfl, trivial⟩ ⟨rfl, rfl, rfl, rfl, rfl, rfl, trivial⟩)
  intro done hd
  show TrQ _ _ _ _ _ _ _
  refine TrQ.regionX tblOK (by kernel_rfl) ?_
  refine ⟨_, opS_next (c := 1002) (r := 17) rfl rfl rfl rfl (fun p hp => hlt _ (List.mem_map_of_mem hp)) (Nat.le_refl _), fun v e hv => ?_⟩
  rcases hv with ⟨p, hp, hs, rfl, rfl⟩ | ⟨hall, rfl, rfl⟩
  · have hpe : p.2 ∈ es := by rw [← hsnd]; exact List.mem_map_of_mem hp
    obtain ⟨a, ha, haL⟩ := h.ex _ hpe
    obtain ⟨m, hm⟩ := sget_of_mem haL
    have hmem := sget_mem hm
    have hlo := h.few _ hmem
    have hnew : ∀ q ∈ cpO L (done.map (·.2)), eqKey .str p.2.1 q.1 = false := by
      intro q hq
      unfold cpO at hq
      rw [List.map_map] at hq
      obtain ⟨e, he, rfl⟩ := List.mem_map.1 hq
      rw [Bool.eq_false_iff]
      intro hk
      have hk : eK p = eK e := (eqKey_str _ _).1 hk
      have := nodup_key hke hp (hd.sub e he) hk
      exact hs (this ▸ List.mem_map_of_mem he)
    have hmeas := unseenA_lt hp hs
    have hdn : DoneOK l (done ++ [p]) := by
      refine ⟨fun e he => ?_, ?_⟩
      · rcases List.mem_append.1 he with he | he
        · exact hd.sub e he
        · rw [List.mem_singleton] at he; rw [he]; exact hp
      · rw [List.map_append]
        exact List.nodup_append.2 ⟨hd.nd, by simp, fun x hx y hy => by
          rw [List.map_singleton, List.mem_singleton] at hy
          rw [hy]
          exact fun e => hs (e ▸ hx)⟩
    have hcp : cpO L ((done ++ [p]).map (·.2)) = cpO L (done.map (·.2)) ++ [(p.2.1, stO m)] := by
      unfold cpO
      rw [List.map_append, List.map_append]
      show _ ++ [(p.2.1, stO (stAt L (pA p.2)))] = _
      rw [ha]
      show _ ++ [(p.2.1, stO ((sget L a).getD stD))] = _
      rw [hm]
      rfl
    have hmd : (done ++ [p]).map (·.1) = done.map (·.1) ++ [p.1] := by rw [List.map_append]; rfl
    obtain ⟨pb, pk, pa⟩ := p
    have ha : pa = some a := ha
    subst ha
    refine ⟨_, _, fun N => opOK_entry (c := 1002) (r := 17) rfl rfl rfl rfl hp N, rfl, ?_⟩
    refine ⟨_, _, _, _, Fn.ren [(2001, 3001)] (poolCopy hm (by have := hlo; simp only at this; omega)), ⟨rfl, trivial⟩, rfl, ?_⟩
    refine ⟨_, _, fun N => opOK_putO (c := 10) (d := 3001) rfl Try.underlying135 (dk := .string) (by kernel_rfl) rfl rfl rfl rfl rfl rfl (by decide) hnew N, rfl, ?_⟩
    refine ⟨rfl, ?_⟩
    refine ⟨done ++ [mkE pb pk a], hdn, by rw [hmd]; exact hmeas, Le.sub ⟨rfl, rfl, rfl, trivial⟩ ⟨rfl, rfl, ?_, rfl, rfl, ?_, trivial⟩⟩
    · rw [hmd]; rfl
    · rw [hcp]; rfl
  · have hperm : (done.map (·.2)).Perm es := by
      rw [← hsnd]
      refine List.Perm.map _ ?_
      have n1 : done.Nodup := by
        have := hd.nd
        rw [List.Nodup, List.pairwise_map] at this
        exact this.imp fun h e => h (by rw [e])
      have n2 : l.Nodup := by
        have := hb
        rw [List.Nodup, List.pairwise_map] at this
        exact this.imp fun h e => h (by rw [e])
      refine (List.perm_ext_iff_of_nodup n1 n2).2 fun e => ⟨hd.sub e, fun he => ?_⟩
      obtain ⟨e', he', e1⟩ := List.mem_map.1 (hall e he)
      rw [← nodup_key hb (hd.sub e' he') he e1]
      exact he'
    refine ⟨⟨done.map (·.2), hperm⟩, _, _, _, ((Le.mapOf 1002 rfl).trans (Le.ren 12 2001 rfl)).trans (Le.ren 10 2002 rfl), rfl, rfl, ⟨rfl, ?_, rfl, rfl, rfl, trivial⟩, rfl⟩
    show some (Ch.map .str .adr (l.map (·.2))) = _
    rw [hsnd]
/-! Files: what a call of a script makes of them; the law's does. -/
abbrev FMap := List (El .str × El .adr)
/-! ### the map of names -/
def putA (es : FMap) (k : List UInt8) (a : Option Nat) : FMap := mput es (k : El .str) (a : El .adr)
def delA (es : FMap) (k : List UInt8) : FMap := mdel es (k : El .str)
def mkA (k : List UInt8) (a : Option Nat) : El .str × El .adr := (k, a)
def eqA (k : List UInt8) (p : El .str × El .adr) : Bool := eqKey .str (k : El .str) p.1
theorem eqA_iff {k : List UInt8} {p : El .str × El .adr} : eqA k p = true ↔ k = pK p := eqKey_str _ _
theorem eqA_no {k : List UInt8} {p : El .str × El .adr} (h : eqA k p = false) : k ≠ pK p := fun e => by rw [eqA_iff.2 e] at h; cases h
theorem putA_nil (k : List UInt8) (a : Option Nat) : putA [] k a = [mkA k a] := rfl
theorem putA_cons (p : El .str × El .adr) (l : FMap) (k : List UInt8) (a : Option Nat) : putA (p :: l) k a = match eqA k p with | true => mkA k a :: l | false => p :: putA l k a := rfl
theorem delA_cons (p : El .str × El .adr) (l : FMap) (k : List UInt8) : delA (p :: l) k = match eqA k p with | true => l | false => p :: delA l k := rfl
theorem fget_cons (p : El .str × El .adr) (l : FMap) (k : List UInt8) : fget (p :: l) k = match eqA k p with | true => pA p | false => fget l k := by
  unfold fget
  show (match eqA k p with | true => some p.2 | false => mget l (k : El .str)).getD (dflt .adr) = _
  cases eqA k p <;> rfl
theorem mkeys_cons (p : El .str × El .adr) (l : FMap) : mkeys (p :: l) = pK p :: mkeys l := rfl
theorem mkeys_nil : mkeys ([] : FMap) = [] := rfl
theorem mem_mkeys_put {k j : List UInt8} {a : Option Nat} : ∀ {l : FMap}, j ∈ mkeys (putA l k a) ↔ j = k ∨ j ∈ mkeys l
  | [] => by rw [putA_nil, mkeys_cons, List.mem_cons]; rfl
  | p :: l => by
    rw [putA_cons]
    cases e : eqA k p with
    | true => rw [mkeys_cons, mkeys_cons, ← eqA_iff.1 e, show pK (mkA k a) = k from rfl]; simp
    | false =>
      simp only
      rw [mkeys_cons, mkeys_cons, List.mem_cons, List.mem_cons, mem_mkeys_put]
      constructor
      · rintro (h | h | h)
        · exact .inr (.inl h)
        · exact .inl h
        · exact .inr (.inr h)
      · rintro (h | h | h)
        · exact .inr (.inl h)
        · exact .inl h
        · exact .inr (.inr h)
theorem nodup_mkeys_put {k : List UInt8} {a : Option Nat} : ∀ {l : FMap}, (mkeys l).Nodup → (mkeys (putA l k a)).Nodup
  | [], _ => by rw [putA_nil, mkeys_cons]; exact List.nodup_cons.2 ⟨fun h => (by cases h), List.nodup_nil⟩
  | p :: l, h => by
    rw [mkeys_cons, List.nodup_cons] at h
    rw [putA_cons]
    cases e : eqA k p with
    | true =>
      simp only
      rw [mkeys_cons, show pK (mkA k a) = k from rfl, eqA_iff.1 e]
      exact List.nodup_cons.2 h
    | false =>
      simp only
      rw [mkeys_cons]
      refine List.nodup_cons.2 ⟨fun hm => ?_, nodup_mkeys_put h.2⟩
      rcases mem_mkeys_put.1 hm with hh | hh
      · exact eqA_no e hh.symm
      · exact h.1 hh
theorem length_put (k : List UInt8) (a : Option Nat) : ∀ l : FMap, (putA l k a).length ≤ l.length + 1
  | [] => Nat.le_refl _
  | p :: l => by
    rw [putA_cons]
    split
    · simp
    · have := length_put k a l
      simp only [List.length_cons]
      omega
theorem delA_sub (k : List UInt8) : ∀ l : FMap, (delA l k).Sublist l
  | [] => List.Sublist.refl _
  | p :: l => by
    rw [delA_cons]
    split
    · exact List.sublist_cons_self _ _
    · exact (delA_sub k l).cons_cons p
theorem mem_pA_put {k : List UInt8} {a : Option Nat} {x : Option Nat} : ∀ {l : FMap}, x ∈ (putA l k a).map pA → x = a ∨ x ∈ l.map pA
  | [], h => by
    rw [putA_nil, List.map_singleton, List.mem_singleton] at h
    exact .inl h
  | p :: l, h => by
    rw [putA_cons] at h
    split at h
    · rcases List.mem_cons.1 h with h | h
      · exact .inl h
      · exact .inr (List.mem_cons_of_mem _ h)
    · rcases List.mem_cons.1 h with h | h
      · exact .inr (h ▸ List.mem_cons_self ..)
      · rcases mem_pA_put h with h | h
        · exact .inl h
        · exact .inr (List.mem_cons_of_mem _ h)
theorem nodup_pA_put {k : List UInt8} {a : Option Nat} : ∀ {l : FMap}, (l.map pA).Nodup → a ∉ l.map pA → ((putA l k a).map pA).Nodup
  | [], _, _ => by rw [putA_nil]; simp
  | p :: l, h, hn => by
    rw [List.map_cons, List.nodup_cons] at h
    rw [List.map_cons, List.mem_cons, not_or] at hn
    rw [putA_cons]
    split
    · rw [List.map_cons]
      exact List.nodup_cons.2 ⟨hn.2, h.2⟩
    · rw [List.map_cons]
      refine List.nodup_cons.2 ⟨fun hm => ?_, nodup_pA_put h.2 hn.2⟩
      rcases mem_pA_put hm with e | e
      · exact hn.1 e.symm
      · exact h.1 e
theorem fget_mem {k : List UInt8} {a : Nat} : ∀ {l : FMap}, fget l k = some a → mkA k (some a) ∈ l
  | [], h => by cases h
  | p :: l, h => by
    rw [fget_cons] at h
    split at h
    · rename_i e
      have e := eqA_iff.1 e
      refine List.mem_cons.2 (.inl ?_)
      show (k, (some a : Option Nat)) = p
      rw [← h, e]
      rfl
    · exact List.mem_cons_of_mem _ (fget_mem h)
theorem mem_put {k : List UInt8} {a : Option Nat} {p : El .str × El .adr} : ∀ {l : FMap}, p ∈ putA l k a → p = mkA k a ∨ p ∈ l
  | [], h => by rw [putA_nil, List.mem_singleton] at h; exact .inl h
  | q :: l, h => by
    rw [putA_cons] at h
    split at h
    · rcases List.mem_cons.1 h with h | h
      · exact .inl h
      · exact .inr (List.mem_cons_of_mem _ h)
    · rcases List.mem_cons.1 h with h | h
      · exact .inr (h ▸ List.mem_cons_self ..)
      · rcases mem_put h with h | h
        · exact .inl h
        · exact .inr (List.mem_cons_of_mem _ h)
/-- What is taken away has its address alone. -/
theorem del_pA {k : List UInt8} {a : Nat} : ∀ {l : FMap}, fget l k = some a → (l.map pA).Nodup → (some a : Option Nat) ∉ (delA l k).map pA ∧ (delA l k).length + 1 = l.length
  | [], h, _ => by cases h
  | p :: l, h, hn => by
    rw [List.map_cons, List.nodup_cons] at hn
    rw [fget_cons] at h
    rw [delA_cons]
    cases e : eqA k p with
    | true =>
      rw [e] at h
      have h : pA p = some a := h
      exact ⟨h ▸ hn.1, rfl⟩
    | false =>
      rw [e] at h
      obtain ⟨h1, h2⟩ := del_pA h hn.2
      refine ⟨?_, by simp only [List.length_cons]; omega⟩
      simp only
      rw [List.map_cons, List.mem_cons, not_or]
      refine ⟨fun e2 => ?_, h1⟩
      exact hn.1 (e2 ▸ List.mem_map_of_mem (f := pA) (fget_mem h))
/-! ### the states -/
theorem NamesOK.put {es : FMap} (h : NamesOK es) {k : List UInt8} {a : Option Nat} (hk : nameOK k = true) (hl : (putA es k a).length ≤ 16) : NamesOK (putA es k a) :=
  ⟨nodup_mkeys_put h.nd, fun s hs => by
    rcases mem_mkeys_put.1 hs with rfl | hs
    · exact hk
    · exact h.ok s hs, hl⟩
theorem NamesOK.del {es : FMap} (h : NamesOK es) (k : List UInt8) : NamesOK (delA es k) :=
  ⟨h.nd.sublist ((delA_sub k es).map _), fun s hs => h.ok s (((delA_sub k es).map _).subset hs), Nat.le_trans (delA_sub k es).length_le h.few⟩
theorem PoolOK.del {es : FMap} {L : SPool} {W : Nat} (h : PoolOK es L W) (k : List UInt8) : PoolOK (delA es k) L W :=
  ⟨fun p hp => h.ex p ((delA_sub k es).subset hp), h.nd.sublist ((delA_sub k es).map _), h.nl, h.ok, h.few⟩
theorem PoolOK.add {es : FMap} {L : SPool} {W : Nat} (h : PoolOK es L W) {k : List UInt8} {b : Nat} {m : StM} (hb : b ∉ L.map (·.1)) (hm : StOK m) (hl : m.loose.length ≤ W) : PoolOK (putA es k (some b)) ((b, m) :: L) W := by
  refine ⟨fun p hp => ?_, nodup_pA_put h.nd fun hx => ?_, List.nodup_cons.2 ⟨hb, h.nl⟩, fun p hp => ?_, fun p hp => ?_⟩
  · rcases mem_put hp with rfl | hp
    · exact ⟨b, rfl, List.mem_cons_self ..⟩
    · obtain ⟨a, h1, h2⟩ := h.ex p hp
      exact ⟨a, h1, List.mem_cons_of_mem _ h2⟩
  · obtain ⟨p, hp, e⟩ := List.mem_map.1 hx
    obtain ⟨a, h1, h2⟩ := h.ex p hp
    rw [e] at h1
    injection h1 with h1
    exact hb (h1 ▸ h2)
  · rcases List.mem_cons.1 hp with rfl | hp
    · exact hm
    · exact h.ok p hp
  · rcases List.mem_cons.1 hp with rfl | hp
    · exact hl
    · exact h.few p hp
theorem PoolOK.ren {es : FMap} {L : SPool} {W : Nat} (h : PoolOK es L W) {fr to : List UInt8} {a : Nat} (hf : fget es fr = some a) : PoolOK (putA (delA es fr) to (some a)) L W := by
  refine ⟨fun p hp => ?_, nodup_pA_put (h.del fr).nd (del_pA hf h.nd).1, h.nl, h.ok, h.few⟩
  rcases mem_put hp with rfl | hp
  · obtain ⟨a', h1, h2⟩ := h.ex _ (fget_mem hf)
    exact ⟨a', h1, h2⟩
  · exact (h.del fr).ex p hp
theorem mapP_fst (f : Nat → StM → StM) (L : SPool) : (mapP f L).map (·.1) = L.map (·.1) := by
  unfold mapP
  rw [List.map_map]
  rfl
theorem sset_fst (a : Nat) (m : StM) : ∀ L : SPool, (sset L a m).map (·.1) = L.map (·.1)
  | [] => rfl
  | p :: L => by
    show (if p.1 = a then (p.1, m) :: L else p :: sset L a m).map (·.1) = _
    split
    · rfl
    · rw [List.map_cons, sset_fst a m L]; rfl
theorem mem_sset {a : Nat} {m : StM} {p : Nat × StM} : ∀ {L : SPool}, p ∈ sset L a m → p.2 = m ∨ p ∈ L
  | [], h => by cases h
  | q :: L, h => by
    have h : p ∈ (if q.1 = a then (q.1, m) :: L else q :: sset L a m) := h
    split at h
    · rcases List.mem_cons.1 h with h | h
      · exact .inl (by rw [h])
      · exact .inr (List.mem_cons_of_mem _ h)
    · rcases List.mem_cons.1 h with h | h
      · exact .inr (h ▸ List.mem_cons_self ..)
      · rcases mem_sset h with h | h
        · exact .inl h
        · exact .inr (List.mem_cons_of_mem _ h)
theorem PoolOK.set {es : FMap} {L : SPool} {W W' : Nat} (h : PoolOK es L W) (a : Nat) {m : StM} (hm : StOK m) (hl : m.loose.length ≤ W') (hw : W ≤ W') : PoolOK es (sset L a m) W' := by
  refine ⟨fun p hp => ?_, h.nd, by rw [sset_fst]; exact h.nl, fun p hp => ?_, fun p hp => ?_⟩
  · rw [sset_fst]; exact h.ex p hp
  · rcases mem_sset hp with e | hp
    · rw [e]; exact hm
    · exact h.ok p hp
  · rcases mem_sset hp with e | hp
    · rw [e]; exact hl
    · exact Nat.le_trans (h.few p hp) hw
theorem PoolOK.map {es : FMap} {L : SPool} {W : Nat} (h : PoolOK es L W) {f : Nat → StM → StM} (h1 : ∀ a m, StOK m → StOK (f a m)) (h2 : ∀ a m, m.loose.length ≤ W → (f a m).loose.length ≤ W) : PoolOK es (mapP f L) W := by
  refine ⟨fun p hp => ?_, h.nd, by rw [mapP_fst]; exact h.nl, fun p hp => ?_, fun p hp => ?_⟩
  · rw [mapP_fst]; exact h.ex p hp
  · obtain ⟨q, hq, rfl⟩ := List.mem_map.1 hp
    exact h1 _ _ (h.ok q hq)
  · obtain ⟨q, hq, rfl⟩ := List.mem_map.1 hp
    exact h2 _ _ (h.few q hq)
theorem PoolOK.mono {es : FMap} {L : SPool} {W W' : Nat} (h : PoolOK es L W) (hw : W ≤ W') : PoolOK es L W' := ⟨h.ex, h.nd, h.nl, h.ok, fun p hp => Nat.le_trans (h.few p hp) hw⟩
theorem crE_ok (ks : List Kp) (es : FMap) (a : Nat) (m : StM) (h : StOK m) : StOK (crE ks es a m) := by
  unfold crE
  split
  · exact h.crash _
  · exact h
theorem crE_few (ks : List Kp) (es : FMap) (W a : Nat) (m : StM) (h : m.loose.length ≤ W) : (crE ks es a m).loose.length ≤ W := by
  unfold crE
  split
  · exact Nat.zero_le _
  · exact h
theorem op_few (m : StM) (o : Op3) (W : Nat) (h : m.loose.length ≤ W) : (m.op o).1.loose.length ≤ W + (oB o).length := by
  have hw : (m.write (oAt o) (oB o)).1.loose.length ≤ W + (oB o).length := by
    unfold StM.write
    split
    · show m.loose.length ≤ _; omega
    · split
      · show m.loose.length ≤ _; omega
      · split
        · show m.loose.length ≤ _; omega
        · show (wrL _ _ _ _).length ≤ _
          rw [wrL_length]
          omega
  unfold StM.op
  split
  · exact hw
  split
  · split
    · show m.loose.length ≤ _; omega
    · split <;> (show m.loose.length ≤ _; omega)
  split
  · exact Nat.zero_le _
  split
  · exact Nat.zero_le _
  split
  · split
    · exact Nat.zero_le _
    · show m.loose.length ≤ _; omega
  split
  · show m.loose.length ≤ _; omega
  · show m.loose.length ≤ _; omega
/-! Files: the law's does. -/
theorem stO_anch {m : StM} {I F : Nat → Prop} {w : World} {p : Pl} (h : (stO m).R I F w p) : F p.blk := by
  obtain ⟨ρ, G, h1, h2, h3, h4⟩ := h
  obtain ⟨hF, _⟩ := h2 1001 _ rfl
  exact (h4 _).2 ⟨1001, _, rfl, (hF _).2 (by rw [h1])⟩
theorem poolR_has {I : Nat → Prop} {w : World} {b : Nat} : ∀ {L : SPool} {F : Nat → Prop}, poolR I w (poolS L) F → b ∈ L.map (·.1) → F b
  | [], _, _, h => by cases h
  | p :: L, F, ⟨F1, F2, q, h1, h2, h3, h4, h5⟩, h => by
    rcases List.mem_cons.1 h with h | h
    · exact (h1 b).2 (.inl (by rw [h]; have := stO_anch h4; rwa [h3] at this))
    · exact (h1 b).2 (.inr (poolR_has h5 h))
/-- A new one is none of the old ones. -/
theorem LeX.poolNew {ids : List Nat} {K : KL} {B : BL} (q : Nat) {L : SPool} {b : Nat} {m : StM} (hq : lookB B q = some (.obj (.pool (poolS ((b, m) :: L))))) : LeX ids K B (X := PLift (b ∉ L.map (·.1))) (fun _ => K) (fun _ => B) := by
  rintro N C a w ⟨hn, hd, ρ, F, hM, hS⟩
  have hP : poolR (Imm C B F w) w (poolS ((b, m) :: L)) (F q) := hM.holds q _ hq
  obtain ⟨F1, F2, p, h1, h2, h3, h4, h5⟩ := hP
  refine ⟨⟨fun hb => ?_⟩, hn, hd, ρ, F, hM, hS⟩
  have e1 := stO_anch h4
  rw [h3] at e1
  exact h2 _ e1 (poolR_has h5 hb)
@[reducible] def uO4 : U := .pr uI (.pr uI (.pr .str (.pr .str (.pr (.sl uK) uO3))))
abbrev Op4 := El uO4
@[reducible] def pKind (o : Op4) : Int := o.1
@[reducible] def pN (o : Op4) : Int := o.2.1
@[reducible] def pName (o : Op4) : List UInt8 := o.2.2.1
@[reducible] def pTo (o : Op4) : List UInt8 := o.2.2.2.1
@[reducible] def pKeeps (o : Op4) : List Kp := o.2.2.2.2.1
@[reducible] def pS (o : Op4) : Op3 := o.2.2.2.2.2
@[reducible] def op4L (o : Op4) : List S1 := [.d (.int .i64 (pKind o)), .d (.int .i64 (pN o)), .d (.str (pName o)), .d (.str (pTo o)), .d (.lst uK (pKeeps o))] ++ op3L (pS o)
@[reducible] def op4V (o : Op4) : SV := .c (.agg (op4L o))
structure DoR where
  es : FMap
  L : SPool
  x : List UInt8
  e : Int
/-- A call of a script; b: where the file that it makes is. -/
def doF (room : Int) (es : FMap) (L : SPool) (o : Op4) (b : Nat) : DoR :=
  if pKind o = 0 then (match nameOK (pName o) && (srightN (pN o) && decide (0 ≤ room)) with
    | false => ⟨es, L, [], 1⟩
    | true => match fget es (pName o) with
      | some _ => ⟨es, L, [], 42⟩
      | none => if es.length < 16 then ⟨putA es (pName o) (some b), (b, ⟨pN o, room, [], [], []⟩) :: L, [], 0⟩ else ⟨es, L, [], 41⟩)
  else if pKind o = 1 then ⟨delA es (pName o), L, [], match fget es (pName o) with | some _ => 0 | none => 40⟩
  else if pKind o = 2 then (match nameOK (pTo o) with
    | false => ⟨es, L, [], 1⟩
    | true => match fget es (pName o) with
      | none => ⟨es, L, [], 40⟩
      | some a => ⟨putA (delA es (pName o)) (pTo o) (some a), L, [], 0⟩)
  else if pKind o = 3 then ⟨es, mapP (crE (pKeeps o) es) L, [], 0⟩
  else if pKind o = 4 then (match fget es (pName o) with
    | none => ⟨es, L, [], 40⟩
    | some a => match sget L a with
      | none => ⟨es, L, [], 0⟩
      | some m => ⟨es, sset L a (m.op (pS o)).1, (m.op (pS o)).2.1, (m.op (pS o)).2.2⟩)
  else ⟨es, L, [], 0⟩
/-- How much a call has. -/
structure OpBd (o : Op4) (n : Nat) : Prop where
  b : (oB (pS o)).length ≤ n
  keep : (oKeep (pS o)).length ≤ n
  name : (pName o).length ≤ n
  to : (pTo o).length ≤ n
  keeps : (pKeeps o).length ≤ n
  kl : ∀ k ∈ pKeeps o, (kL k).length ≤ n
structure FOK (es : FMap) (L : SPool) (W : Nat) : Prop where
  nm : NamesOK es
  pl : PoolOK es L W
theorem fget_ex {es : FMap} {L : SPool} {W : Nat} (h : PoolOK es L W) {k : List UInt8} {a : Nat} (hf : fget es k = some a) : ∃ m, sget L a = some m ∧ StOK m ∧ m.loose.length ≤ W := by
  obtain ⟨a', h1, h2⟩ := h.ex _ (fget_mem hf)
  have h1 : some a = some a' := h1
  injection h1 with h1
  subst h1
  obtain ⟨m, hm⟩ := sget_of_mem h2
  exact ⟨m, hm, h.ok _ (sget_mem hm), h.few _ (sget_mem hm)⟩
/-- The files stay as they should. -/
theorem doF_ok {room : Int} {es : FMap} {L : SPool} {o : Op4} {b W : Nat} (h : FOK es L W) (hb : b ∉ L.map (·.1)) : FOK (doF room es L o b).es (doF room es L o b).L (W + (oB (pS o)).length) := by
  have h0 : FOK es L (W + (oB (pS o)).length) := ⟨h.nm, h.pl.mono (Nat.le_add_right _ _)⟩
  unfold doF
  split
  · split
    · exact h0
    · rename_i hc
      simp only [Bool.and_eq_true] at hc
      split
      · exact h0
      · split
        · rename_i hl
          exact ⟨h.nm.put hc.1 (Nat.le_trans (length_put _ _ _) hl), h0.pl.add hb (StOK.new hc.2.1) (Nat.zero_le _)⟩
        · exact h0
  split
  · exact ⟨h.nm.del _, h0.pl.del _⟩
  split
  · split
    · exact h0
    · rename_i hc
      split
      · exact h0
      · rename_i a ha
        refine ⟨(h.nm.del _).put hc ?_, h0.pl.ren ha⟩
        have := (del_pA ha h.pl.nd).2
        have h1 := length_put (pTo o) (some a) (delA es (pName o))
        have := h.nm.few
        omega
  split
  · exact ⟨h.nm, h0.pl.map (fun a m => crE_ok _ _ a m) (fun a m => crE_few _ _ _ a m)⟩
  split
  · split
    · exact h0
    · rename_i a ha
      obtain ⟨m, hm, h1, h2⟩ := fget_ex h.pl ha
      rw [hm]
      exact ⟨h.nm, h.pl.set a (h1.op _) (op_few _ _ _ h2) (Nat.le_add_right _ _)⟩
  · exact h0
@[reducible] def dkK (o : Op4) (k r : Nat) : KL := [(0, vP 1001), (3, vP 3), (8, vOwn r), (44, vL uK (pKeeps o)), (45, vI ((pKeeps o).length : Nat)), (46, vI (k : Nat))]
@[reducible] def dkB (room : Int) (es : FMap) (L : SPool) (o : Op4) (k r : Nat) : BL := flS 1001 1002 1003 room es L ++ [(3, .cells (op4L o)), (r, .row 149 uK ((pKeeps o).take k))]
@[reducible] def dkE (room : Int) (es : FMap) (L : SPool) (o : Op4) : BL := flS 1001 1002 1003 room es L ++ [(3, .cells (op4L o)), (2003, .row 149 uK (pKeeps o))]
set_option maxHeartbeats 1000000 in
theorem does_fn (room : Int) (es : FMap) (L : SPool) (o : Op4) (W : Nat) (h : FOK es L W) (hW : W ≤ 1073741824) (hO : OpBd o 1073741824) :
    FnX Try.prog 43 [vP 1001, op4V o] (flS 1001 1002 1003 room es L) [] (X := { b : Nat // b ∉ L.map (·.1) }) (fun g => .tup [.one (.d (.str (doF room es L o g.1).x)), vErr (doF room es L o g.1).e]) (fun g => flS 1001 1002 1003 room (doF room es L o g.1).es (doF room es L o g.1).L) := by
  have hex : ∃ b : Nat, b ∉ L.map (·.1) := by
    refine ⟨(L.map (·.1)).foldr max 0 + 1, fun hm => ?_⟩
    have : ∀ (l : List Nat) x, x ∈ l → x ≤ l.foldr max 0 := by
      intro l
      induction l with
      | nil => intro x hx; cases hx
      | cons y l ih =>
        intro x hx
        rw [List.foldr_cons]
        rcases List.mem_cons.1 hx with rfl | hx
        · exact Nat.le_max_left _ _
        · exact Nat.le_trans (ih x hx) (Nat.le_max_right _ _)
    have := this _ _ hm
    omega
  obtain ⟨b0, hb0⟩ := hex
  let g0 : { b : Nat // b ∉ L.map (·.1) } := ⟨b0, hb0⟩
  refine FnX.of tblOK [3,4,16] _ _ _ _ _ Try.func43 rfl rfl (by kernel_rfl) (by kernel_rfl) rfl (drawOK tblOK) rfl ?_
  refine ⟨rfl, ?_⟩
  refine ⟨fun c0 => ?_, fun c0 => ?_⟩
  · have c0 : pKind o = 0 := of_decide_eq_true c0
    have hE : ∀ b, doF room es L o b = _ := fun b => if_pos c0
    show TrQ _ _ _ _ _ _ _
    cases hc : nameOK (pName o) && (srightN (pN o) && decide (0 ≤ room)) with
    | false =>
      rw [hc] at hE
      refine TrQ.go tblOK (drawOK tblOK) [] (by kernel_rfl) (Le.refl _ _) ?_
      refine ⟨_, _, _, _, fcreate_arg room es (pName o) (pN o) (by have := hO.name; omega) hc, ⟨rfl, rfl, trivial⟩, rfl, ?_⟩
      show TrQ _ _ _ _ _ _ _
      refine TrQ.go tblOK (drawOK tblOK) [] (by kernel_rfl) (Le.refl _ _) ?_
      exact ⟨g0, _, _, _, Le.refl _ _, rfl, ⟨(congrArg DoR.x (hE b0)).symm, (congrArg DoR.e (hE b0)).symm, trivial⟩, ⟨rfl, congrArg (fun r => some (Ch.map .str .adr (DoR.es r))) (hE b0).symm, congrArg (fun r => some (Ch.obj (.pool (poolS (DoR.L r))))) (hE b0).symm, trivial⟩, rfl⟩
    | true =>
      rw [hc] at hE
      have hc' := hc
      rw [Bool.and_eq_true] at hc'
      cases hg : fget es (pName o) with
      | some a =>
        rw [hg] at hE
        refine TrQ.go tblOK (drawOK tblOK) [] (by kernel_rfl) (Le.refl _ _) ?_
        refine ⟨_, _, _, _, fcreate_there room es (pName o) (pN o) a (by have := hO.name; omega) hc'.1 hc'.2 hg, ⟨rfl, rfl, trivial⟩, rfl, ?_⟩
        show TrQ _ _ _ _ _ _ _
        refine TrQ.go tblOK (drawOK tblOK) [] (by kernel_rfl) (Le.refl _ _) ?_
        exact ⟨g0, _, _, _, Le.refl _ _, rfl, ⟨(congrArg DoR.x (hE b0)).symm, (congrArg DoR.e (hE b0)).symm, trivial⟩, ⟨rfl, congrArg (fun r => some (Ch.map .str .adr (DoR.es r))) (hE b0).symm, congrArg (fun r => some (Ch.obj (.pool (poolS (DoR.L r))))) (hE b0).symm, trivial⟩, rfl⟩
      | none =>
        rw [hg] at hE
        by_cases hl : es.length < 16
        · have hE : ∀ b, doF room es L o b = ⟨putA es (pName o) (some b), (b, ⟨pN o, room, [], [], []⟩) :: L, [], 0⟩ := fun b => (hE b).trans (if_pos hl)
          refine TrQ.regionX tblOK (by kernel_rfl) ?_
          refine ⟨Nat, _, _, fun b => _, fun b => _, fcreate_ok room es (poolS L) (pName o) (pN o) (by have := hO.name; omega) hc'.1 hc'.2 hg hl, ⟨rfl, rfl, rfl, trivial⟩, rfl, fun _ => rfl, fun b => ?_⟩
          show TrQ _ _ _ _ _ _ _
          refine TrQ.leX (LeX.poolNew 1003 (L := L) (b := b) (m := ⟨pN o, room, [], [], []⟩) rfl) fun hb => ?_
          refine TrQ.go tblOK (drawOK tblOK) [] (by kernel_rfl) (Le.refl _ _) ?_
          exact ⟨⟨b, hb.down⟩, _, _, _, Le.refl _ _, rfl, ⟨(congrArg DoR.x (hE b)).symm, (congrArg DoR.e (hE b)).symm, trivial⟩, ⟨rfl, congrArg (fun r => some (Ch.map .str .adr (DoR.es r))) (hE b).symm, congrArg (fun r => some (Ch.obj (.pool (poolS (DoR.L r))))) (hE b).symm, trivial⟩, rfl⟩
        · have hE : ∀ b, doF room es L o b = ⟨es, L, [], 41⟩ := fun b => (hE b).trans (if_neg hl)
          refine TrQ.go tblOK (drawOK tblOK) [] (by kernel_rfl) (Le.refl _ _) ?_
          refine ⟨_, _, _, _, fcreate_full room es (pName o) (pN o) (by have := hO.name; omega) hc'.1 hc'.2 hg (by omega), ⟨rfl, rfl, trivial⟩, rfl, ?_⟩
          show TrQ _ _ _ _ _ _ _
          refine TrQ.go tblOK (drawOK tblOK) [] (by kernel_rfl) (Le.refl _ _) ?_
          exact ⟨g0, _, _, _, Le.refl _ _, rfl, ⟨(congrArg DoR.x (hE b0)).symm, (congrArg DoR.e (hE b0)).symm, trivial⟩, ⟨rfl, congrArg (fun r => some (Ch.map .str .adr (DoR.es r))) (hE b0).symm, congrArg (fun r => some (Ch.obj (.pool (poolS (DoR.L r))))) (hE b0).symm, trivial⟩, rfl⟩
  have c0 : pKind o ≠ 0 := of_decide_eq_false c0
  refine ⟨fun c1 => ?_, fun c1 => ?_⟩
  · have c1 : pKind o = 1 := of_decide_eq_true c1
    have hE : doF room es L o b0 = _ := (if_neg c0).trans (if_pos c1)
    refine ⟨_, _, _, _, fremove_fn room es (pName o), ⟨rfl, rfl, trivial⟩, rfl, ?_⟩
    exact ⟨g0, _, _, _, Le.refl _ _, rfl, ⟨(congrArg DoR.x hE).symm, (congrArg DoR.e hE).symm, trivial⟩, ⟨rfl, congrArg (fun r => some (Ch.map .str .adr (DoR.es r))) hE.symm, congrArg (fun r => some (Ch.obj (.pool (poolS (DoR.L r))))) hE.symm, trivial⟩, rfl⟩
  have c1 : pKind o ≠ 1 := of_decide_eq_false c1
  refine ⟨fun c2 => ?_, fun c2 => ?_⟩
  · have c2 : pKind o = 2 := of_decide_eq_true c2
    have hE : doF room es L o b0 = _ := (if_neg c0).trans ((if_neg c1).trans (if_pos c2))
    have hto : (pTo o).length ≤ 4294967296 := by have := hO.to; omega
    cases hc : nameOK (pTo o) with
    | false =>
      rw [hc] at hE
      refine ⟨_, _, _, _, frename_arg room es (pName o) (pTo o) hto hc, ⟨rfl, rfl, trivial⟩, rfl, ?_⟩
      exact ⟨g0, _, _, _, Le.refl _ _, rfl, ⟨(congrArg DoR.x hE).symm, (congrArg DoR.e hE).symm, trivial⟩, ⟨rfl, congrArg (fun r => some (Ch.map .str .adr (DoR.es r))) hE.symm, congrArg (fun r => some (Ch.obj (.pool (poolS (DoR.L r))))) hE.symm, trivial⟩, rfl⟩
    | true =>
      rw [hc] at hE
      cases hg : fget es (pName o) with
      | none =>
        rw [hg] at hE
        refine ⟨_, _, _, _, frename_no room es (pName o) (pTo o) hto hc hg, ⟨rfl, rfl, trivial⟩, rfl, ?_⟩
        exact ⟨g0, _, _, _, Le.refl _ _, rfl, ⟨(congrArg DoR.x hE).symm, (congrArg DoR.e hE).symm, trivial⟩, ⟨rfl, congrArg (fun r => some (Ch.map .str .adr (DoR.es r))) hE.symm, congrArg (fun r => some (Ch.obj (.pool (poolS (DoR.L r))))) hE.symm, trivial⟩, rfl⟩
      | some a =>
        rw [hg] at hE
        refine ⟨_, _, _, _, frename_ok room es (pName o) (pTo o) a hto hc hg, ⟨rfl, rfl, trivial⟩, rfl, ?_⟩
        exact ⟨g0, _, _, _, Le.refl _ _, rfl, ⟨(congrArg DoR.x hE).symm, (congrArg DoR.e hE).symm, trivial⟩, ⟨rfl, congrArg (fun r => some (Ch.map .str .adr (DoR.es r))) hE.symm, congrArg (fun r => some (Ch.obj (.pool (poolS (DoR.L r))))) hE.symm, trivial⟩, rfl⟩
  have c2 : pKind o ≠ 2 := of_decide_eq_false c2
  refine ⟨fun c3 => ?_, fun c3 => ?_⟩
  · have c3 : pKind o = 3 := of_decide_eq_true c3
    have hE : doF room es L o b0 = _ := (if_neg c0).trans ((if_neg c1).trans ((if_neg c2).trans (if_pos c3)))
    show TrQ _ _ _ _ _ _ _
    refine TrQ.loop tblOK (drawOK tblOK) [] (by kernel_rfl) (X := Nat) (fun k => dkK o k 2003) (fun k => dkB room es L o k 2003) (fun k => k ≤ (pKeeps o).length) (fun k => (pKeeps o).length - k) 0 (Nat.zero_le _) ?_ ?_
    · exact Le.trans (Le.nil 8 2003 149 uK rfl rfl) (Le.sub ⟨rfl, rfl, rfl, rfl, rfl, rfl, trivial⟩ ⟨rfl, rfl, rfl, rfl, rfl, trivial⟩)
    intro k hk
    have hkl := hO.keeps
    refine ⟨fun hc => ?_, fun hc => ?_⟩
    · have hk1 : k < (pKeeps o).length := by
        have hc : decide ((k : Int) < ((pKeeps o).length : Int)) = true := hc
        simpa using hc
      refine ⟨by omega, (pKeeps o)[k], lgAt (n := k) hk1, ?_⟩
      refine ⟨rfl, ?_⟩
      have hlen : ((pKeeps o).take k).length + 1 ≤ 4294967296 := by rw [List.length_take]; omega
      refine ⟨hlen, rfl, ?_⟩
      refine ⟨by omega, k + 1, by omega, by omega, Le.trans (Le.sub (K' := dkK o (k + 1) 53) (B' := dkB room es L o (k + 1) 53) ⟨rfl, rfl, rfl, rfl, rfl, rfl, trivial⟩ ⟨rfl, rfl, rfl, rfl, ?_, trivial⟩) (Le.ren 53 2003 rfl)⟩
      have : (pKeeps o).take (k + 1) = (pKeeps o).take k ++ [(pKeeps o)[k]] := List.take_succ_eq_append_getElem hk1
      rw [this]
      rfl
    · have hk1 : k = (pKeeps o).length := by
        have hc : decide ((k : Int) < ((pKeeps o).length : Int)) = false := hc
        simp at hc; omega
      subst hk1
      show TrQ _ _ _ _ _ _ _
      refine TrQ.go tblOK (drawOK tblOK) [] (by kernel_rfl) (Le.trans (Le.sub (K' := dkK o (pKeeps o).length 2003) (B' := dkE room es L o) ⟨rfl, rfl, rfl, rfl, rfl, rfl, trivial⟩ ⟨rfl, rfl, rfl, rfl, congrArg (fun l => some (Ch.row 149 uK l)) List.take_length, trivial⟩) (Le.frz 2003 rfl)) ?_
      refine ⟨_, _, _, _, fcrash_fn room es L W (pKeeps o) h.pl hW hkl hO.kl, ⟨rfl, rfl, rfl, trivial⟩, rfl, ?_⟩
      exact ⟨g0, _, _, _, Le.refl _ _, rfl, ⟨(congrArg DoR.x hE).symm, (congrArg DoR.e hE).symm, trivial⟩, ⟨rfl, congrArg (fun r => some (Ch.map .str .adr (DoR.es r))) hE.symm, congrArg (fun r => some (Ch.obj (.pool (poolS (DoR.L r))))) hE.symm, trivial⟩, rfl⟩
  have c3 : pKind o ≠ 3 := of_decide_eq_false c3
  refine ⟨fun c4 => ?_, fun c4 => ?_⟩
  · have c4 : pKind o = 4 := of_decide_eq_true c4
    have hE : doF room es L o b0 = _ := (if_neg c0).trans ((if_neg c1).trans ((if_neg c2).trans ((if_neg c3).trans (if_pos c4))))
    cases hg : fget es (pName o) with
    | none =>
      rw [hg] at hE
      refine ⟨_, _, _, _, fopen_no room es (pName o) hg, ⟨rfl, rfl, trivial⟩, rfl, ?_⟩
      refine ⟨fun _ => ?_, fun hh => absurd hh (by decide)⟩
      exact ⟨g0, _, _, _, Le.refl _ _, rfl, ⟨(congrArg DoR.x hE).symm, (congrArg DoR.e hE).symm, trivial⟩, ⟨rfl, congrArg (fun r => some (Ch.map .str .adr (DoR.es r))) hE.symm, congrArg (fun r => some (Ch.obj (.pool (poolS (DoR.L r))))) hE.symm, trivial⟩, rfl⟩
    | some a =>
      rw [hg] at hE
      obtain ⟨m, hm, h1, h2⟩ := fget_ex h.pl hg
      have hE : doF room es L o b0 = ⟨es, sset L a (m.op (pS o)).1, (m.op (pS o)).2.1, (m.op (pS o)).2.2⟩ := by
        rw [hE]
        simp only
        rw [hm]
      refine ⟨_, _, _, _, fopen_ok room es (pName o) a hg, ⟨rfl, rfl, trivial⟩, rfl, ?_⟩
      refine ⟨fun hh => absurd hh (by decide), fun _ => ?_⟩
      refine ⟨fun _ _ => ?_, fun hh => by cases hh⟩
      refine ⟨_, _, _, _, poolFn (stores_fn m (pS o) h1 hO.b hO.keep (by omega)) hm rfl rfl, ⟨rfl, trivial⟩, rfl, ?_⟩
      exact ⟨g0, _, _, _, Le.refl _ _, rfl, ⟨(congrArg DoR.x hE).symm, (congrArg DoR.e hE).symm, trivial⟩, ⟨rfl, congrArg (fun r => some (Ch.map .str .adr (DoR.es r))) hE.symm, congrArg (fun r => some (Ch.obj (.pool (poolS (DoR.L r))))) hE.symm, trivial⟩, rfl⟩
  have c4 : pKind o ≠ 4 := of_decide_eq_false c4
  have hE : doF room es L o b0 = ⟨es, L, [], 0⟩ := (if_neg c0).trans ((if_neg c1).trans ((if_neg c2).trans ((if_neg c3).trans (if_neg c4))))
  exact ⟨g0, _, _, _, Le.refl _ _, rfl, ⟨(congrArg DoR.x hE).symm, (congrArg DoR.e hE).symm, trivial⟩, ⟨rfl, congrArg (fun r => some (Ch.map .str .adr (DoR.es r))) hE.symm, congrArg (fun r => some (Ch.obj (.pool (poolS (DoR.L r))))) hE.symm, trivial⟩, rfl⟩
end Go.Proofs.Ythghcdddambaeaa
