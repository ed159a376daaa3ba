/-
  slices.Clone and slices.Delete of backups.
-/
import Derived.Test.YthghcdddambaeaaL1
import Derived.Deep.RegionLaw
set_option linter.unusedVariables false
set_option linter.unusedSimpArgs false
namespace Go.Proofs.Ythghcdddambaeaa
open Go.RowKit

theorem info_bk' : (Try.prog.info? 43).map (fun i => (i.zero, i.size, i.bytes)) = some (some (.agg #[.string ⟨#[]⟩, .string ⟨#[]⟩, .int .i64 0, .int .i64 0, .slice none 0 0]), 5, 72) := by kernel_rfl

set_option maxRecDepth 100000 in
set_option maxHeartbeats 400000 in
/-- slices.Clone of backups. -/
theorem clone_bks (v : Value) (n : Nat) (xs : List Value) (w : World) (hv : w.ownsRow 0 43 5 v n xs) (hn : n ≤ 4294967296) (h1 : ∀ u ∈ xs, u.oneCell' = true) (hpos : 0 < n) :
    Calls Try.prog 64 #[v] w fun e w' => ∃ v', e = .returned v' ∧ w'.ownsRow w.heap.size 43 5 v' n xs ∧ Below w.heap.size w w' := by
  have hsl := Sl.of_own hv
  obtain ⟨b, o, c, rfl, -, -, -, -, -⟩ := hsl.at_ hpos
  have Hsl := Lib.hid hsl
  have H1 := Lib.hid h1
  clear hv hsl h1
  have hnil := Lib.run_eql_slice_nil (P := Try.prog)
  go_enter Try.func64, Try.ntmps64
  go_wp2_with (at_builtin; refine wpList_append_sl _ rfl (.tmp 5) (.tmp 6) _ rfl w.heap.size 43 _ 5 72 Try.underlying105 info_bk' rfl (by omega) (.slice (some ⟨w.heap.size, 0, none⟩) 0 0) 0 [] rfl (by exact ⟨by simp, .inr ⟨w.heap.size, 0, #[], rfl, Nat.le_refl _, heap_alloc_new w _, Nat.le_refl _, by decide, rfl, rfl⟩⟩) _ (.slice (some ⟨b, o, none⟩) n c) n xs rfl (by exact Hsl.out.below (alloc_below _ _)) H1.out (by simp only [maxLen]; omega) (by omega) (by simp) ?_; intro v' w1 hown hgr hat)
  go_wp2
  go_ret
  refine ⟨v', rfl, by simpa using hown, ?_⟩
  exact (alloc_below _ _).grown hgr (by simp) (fun k hk => by simp [Value.ownBlock] at hk; omega)

theorem run_append_in {P : Program} (w : World) (t ty e : TypeId) (z : Value) (size bytes : Nat) (ht : P.underlying t = some (.slice e)) (hinf : (P.info? e).map (fun i => (i.zero, i.size, i.bytes)) = some (some z, size, bytes))
    (g k cap : Nat) (cur : List Value) (hg : w.heap[g]? = some (.cells cur.toArray e (0, 0))) (D : Nat → Prop) (src : Value) (m : Nat) (news : List Value) (hr : Sl D w size src m news) (h1 : ∀ u ∈ news, u.oneCell' = true)
    (hroom : k + m ≤ cap) (hfit : (k + m) * size ≤ cur.length) :
    ∃ w', (Builtin.append_ #[t, t] ty #[.slice (some ⟨g, 0, none⟩) k cap, src]).run P w = .ok (.slice (some ⟨g, 0, none⟩) (k + m) cap) w' ∧ w'.heap[g]? = some (.cells (splice cur (k * size) news).toArray e (0, 0)) ∧ w.grownBy w' (some g) := by
  obtain ⟨i, hi, hz, hsize, hby⟩ := info_parts hinf
  subst hsize
  obtain ⟨hl, A, c, rfl, _, _, h3⟩ := hr
  have hfit2 : k * i.size + news.length ≤ cur.length := by rw [hl, ← Nat.add_mul]; exact hfit
  rcases A with _ | ad
  · have hm : m = 0 := by
      rcases Nat.eq_zero_or_pos m with h0 | h0
      · exact h0
      · obtain ⟨b, o, h, _⟩ := h3 h0
        cases h
    subst hm
    have hn : news = [] := List.eq_nil_of_length_eq_zero (by simpa using hl)
    subst hn
    refine ⟨w, ?_, by simpa [splice] using hg, World.grownBy.refl w _⟩
    have hkc : k ≤ cap := by omega
    simp [Builtin.append_, run_underlying ht, sizeOf, typeInfo, hi, Builtin.lenOf, Builtin.firstCells, hkc, storeCells]
  · have hcells : ∀ j u, news[j]? = some u → w.cell? (ad.add j) = some u := by
      intro j u hu
      rcases Nat.eq_zero_or_pos m with h0 | h0
      · subst h0
        have hn : news = [] := List.eq_nil_of_length_eq_zero (by simpa using hl)
        subst hn
        simp at hu
      · obtain ⟨b, o, h, _, _, hc⟩ := h3 h0
        injection h with h
        subst h
        rw [addr_add]
        exact hc j u hu
    refine ⟨_, run_append_room (P := P) w t ty e i ht hi g k cap cur.toArray hg ad m c news hl hcells h1 hroom (by simpa using hfit2), ?_, ⟨rfl, rfl, rfl, by simp [World.setRow], fun k' _ hk => setRow_other w g k' _ (fun e => hk (by rw [e]))⟩⟩
    rw [setRow_heap w g cur.toArray _ e (0, 0) hg]
    simp [splice]

theorem step_append_in {P : Program} (w : World) {ops : Array Oper} {o : Oper} {a : Act} {K : Act → World → Prop} {Q : Exit → Act → World → Prop} {E : Prop} (hgd : o.guard = none) (s x : Operand) (t : TypeId)
    (ho : o.op = .call { callee := .builtin .append, args := #[s, x], argTypes := #[t, t] })
    (e : TypeId) (z : Value) (size bytes : Nat) (ht : P.underlying t = some (.slice e)) (hinf : (P.info? e).map (fun i => (i.zero, i.size, i.bytes)) = some (some z, size, bytes))
    (g k cap : Nat) (hs : a.eval s = .slice (some ⟨g, 0, none⟩) k cap) (cur : List Value) (hg : w.heap[g]? = some (.cells cur.toArray e (0, 0))) (D : Nat → Prop) (src : Value) (m : Nat) (news : List Value) (hx : a.eval x = src) (hr : Sl D w size src m news) (h1 : ∀ u ∈ news, u.oneCell' = true)
    (hroom : k + m ≤ cap) (hfit : (k + m) * size ≤ cur.length)
    (h : ∀ w', w'.heap[g]? = some (.cells (splice cur (k * size) news).toArray e (0, 0)) → w.grownBy w' (some g) → K (a.put o.dst (.slice (some ⟨g, 0, none⟩) (k + m) cap)) w') :
    if Region.wanted o (yielded ops a.tmps) = true then Oper.wp P o a w K Q else E := by
  have hw : Region.wanted o (yielded ops a.tmps) = true := by simp [Region.wanted, hgd]
  rw [if_pos hw]
  obtain ⟨w', hrun, h2, h3⟩ := run_append_in (P := P) w t o.type e z size bytes ht hinf g k cap cur hg D src m news hr h1 hroom hfit
  unfold Oper.wp execOp
  simp only [ho, resolve, invoke, builtin, Sem.run_bind, Sem.run_pure, Result.andThen_ok, List.map_toArray, List.map_cons, List.map_nil, hs, hx, hrun]
  exact h w' h2 h3

theorem run_clear_one {P : Program} (w : World) (t ty e : TypeId) (z : Value) (size bytes : Nat) (ht : P.underlying t = some (.slice e)) (hinf : (P.info? e).map (fun i => (i.zero, i.size, i.bytes)) = some (some z, size, bytes)) (hzs : z.cells.size = size) (hz1 : ∀ u ∈ z.cells.toList, u.oneCell' = true)
    (g o c : Nat) (cur : List Value) (hg : w.heap[g]? = some (.cells cur.toArray e (0, 0))) (hfit : o + size ≤ cur.length) :
    ∃ w', (Builtin.clear_ #[t] ty #[.slice (some ⟨g, o, none⟩) 1 c]).run P w = .ok (.tuple #[]) w' ∧ w'.heap[g]? = some (.cells (splice cur o z.cells.toList).toArray e (0, 0)) ∧ w.grownBy w' (some g) := by
  obtain ⟨i, hi, hz, hsize, hby⟩ := info_parts hinf
  have hzc : (Builtin.zeroCells z.cells 1).toList = z.cells.toList := by
    have : Builtin.zeroCells z.cells 1 = z.cells := by
      apply Array.ext
      · simp [Builtin.zeroCells]
      · intro j h1 h2
        simp [Builtin.zeroCells, Nat.mod_eq_of_lt h2, h2]
    rw [this]
  have hst := run_storeCells_at P g o e z.cells.toList 0 cur.toArray w hg (by simp [hzs]; omega) hz1
  simp only [Nat.add_zero] at hst
  refine ⟨w.setRow g (List.take o cur ++ z.cells.toList ++ List.drop (o + z.cells.toList.length) cur).toArray, by simp [Builtin.clear_, run_underlying ht, zeroValue, typeInfo, hi, hz, hzc, hst], ?_, ⟨rfl, rfl, rfl, by simp [World.setRow], fun k' _ hk => setRow_other w g k' _ (fun e => hk (by rw [e]))⟩⟩
  rw [setRow_heap w g cur.toArray _ e (0, 0) hg]
  simp [splice]

theorem wpList_clear_one {P : Program} (w : World) {ops : Array Oper} {rest : List Oper} {o : Oper} {a : Act} {Q : Exit → Act → World → Prop} (hgd : o.guard = none) (x : Operand) (t : TypeId)
    (ho : o.op = .call { callee := .builtin .clear, args := #[x], argTypes := #[t] })
    (e : TypeId) (z : Value) (size bytes : Nat) (ht : P.underlying t = some (.slice e)) (hinf : (P.info? e).map (fun i => (i.zero, i.size, i.bytes)) = some (some z, size, bytes)) (hzs : z.cells.size = size) (hz1 : ∀ u ∈ z.cells.toList, u.oneCell' = true)
    (g off c : Nat) (hx : a.eval x = .slice (some ⟨g, off, none⟩) 1 c) (cur : List Value) (hg : w.heap[g]? = some (.cells cur.toArray e (0, 0))) (hfit : off + size ≤ cur.length)
    (h : ∀ w', w'.heap[g]? = some (.cells (splice cur off z.cells.toList).toArray e (0, 0)) → w.grownBy w' (some g) → wpList P ops Q rest (a.put o.dst (.tuple #[])) w') : wpList P ops Q (o :: rest) a w :=
  wpList_plain hgd fun _ hK => by
    obtain ⟨w', hrun, h2, h3⟩ := run_clear_one (P := P) w t o.type e z size bytes ht hinf hzs hz1 g off c cur hg hfit
    unfold Oper.wp execOp
    simp only [ho, resolve, invoke, builtin, Sem.run_bind, Sem.run_pure, Result.andThen_ok, List.map_toArray, List.map_cons, List.map_nil, hx, hrun]
    exact hK _ _ (h w' h2 h3)

theorem splice_nil {α : Type} (L : List α) (o : Nat) : splice L o [] = L := by simp [splice]
theorem grown_drew {w w' : World} {r : Option Nat} (h : w.drew.grownBy w' r) : w.grownBy w' r := ⟨h.os, h.tape, h.output, h.size, h.block⟩
theorem bkz_one : ∀ u ∈ (Value.agg #[.string ⟨#[]⟩, .string ⟨#[]⟩, .int .i64 0, .int .i64 0, .slice none 0 0]).cells.toList, u.oneCell' = true := by simp [Value.cells, Value.oneCell']

/-- Behind the clearing of what is behind. -/
theorem own_cut {w3 : World} {B g m cap : Nat} {cur xs zs : List Value} (hB : B ≤ g) (hh : w3.heap[g]? = some (.cells (splice cur (m * 5) zs).toArray 43 (0, 0))) (hm : m ≤ cap) (hcm : cap ≤ maxLen) (hc : cur.length = cap * 5) (hz : m * 5 + zs.length ≤ cap * 5) (hx : cur.take (m * 5) = xs) (hxl : xs.length = m * 5) :
    w3.ownsRow B 43 5 (.slice (some ⟨g, 0, none⟩) m cap) m xs := by
  refine ⟨hxl, .inr ⟨g, cap, _, rfl, hB, hh, hm, hcm, ?_, ?_⟩⟩
  · simp only [List.size_toArray]
    rw [length_splice _ _ _ (by omega), hc]
  · simp only [splice]
    rw [List.take_append_of_le_length (by simp; omega), List.take_of_length_le (by simp; omega)]
    exact hx

set_option maxRecDepth 100000 in
set_option maxHeartbeats 1000000 in
/-- slices.Delete of the last backup of a full slice. -/
theorem delete_a (B g k : Nat) (xs : List Value) (w : World) (hv : w.ownsRow B 43 5 (.slice (some ⟨g, 0, none⟩) (k + 1) (k + 1)) (k + 1) xs) :
    Calls Try.prog 63 #[.slice (some ⟨g, 0, none⟩) (k + 1) (k + 1), .int .i64 k, .int .i64 (k + 1)] w fun e w' => e = .returned (.slice (some ⟨g, 0, none⟩) k (k + 1)) ∧
      w'.ownsRow B 43 5 (.slice (some ⟨g, 0, none⟩) k (k + 1)) k (xs.take (k * 5)) ∧ w.grownBy w' (some g) := by
  obtain ⟨hl, h2⟩ := hv
  rcases h2 with ⟨h, _⟩ | ⟨g', cap', cur, he, hB, hh, hnc, hcm, hcs, htk⟩
  · cases h
  injection he with e1 e2 e3
  injection e1 with e1
  injection e1 with e1
  subst e1 e3
  clear e2
  unfold maxLen at hcm
  have i0 : (0 : Int) ≤ (k : Int) := by omega
  have i1 : (k : Int) ≤ (k : Int) + 1 := by omega
  have i4 : ((k : Int) == (k : Int) + 1) = false := by simp; omega
  have j2 : (0 : Int) ≤ (k : Int) + 1 := by omega
  have i3 : (k : Int) + 1 ≤ ((k + 1 : Nat) : Int) := by omega
  have j1 : k ≤ k + 1 := by omega
  have HH := Lib.hid hh
  have Hlc := Lib.hid (show cur.toList.length = (k + 1) * 5 by rw [Array.length_toList, hcs])
  have Hx := Lib.hid hl
  have Htk := Lib.hid htk
  have HB := Lib.hid hB
  have hs1 : Sl (fun _ => True) w 5 (.slice (some ⟨g, 0, none⟩) 0 0) 0 [] := ⟨by simp, _, _, rfl, by omega, by simp only [maxLen]; omega, fun h => absurd h (by omega)⟩
  have Hs1 := Lib.hid hs1
  clear hh hcs hl htk hs1
  go_enter Try.func63, Try.ntmps63
  go_wp2
  go_region_law ((refine step_append_in _ (by rfl) (.tmp 22) (.tmp 25) _ (by rfl) 43 _ 5 72 Try.underlying105 info_bk' g k (k + 1) (by rfl) cur.toList (by exact HH.out) (fun _ => True) _ 0 [] (by rfl) (by exact Hs1.out) (fun u hu => by cases hu) (by omega) (by rw [Hlc.out]; omega) ?_; intro w2 hh2 hgr2))
  all_goals rw [Nat.add_zero]
  all_goals
    go_wp2_with (refine wpList_clear_one _ rfl (.tmp 31) 105 rfl 43 _ 5 72 Try.underlying105 info_bk' rfl bkz_one g (k * 5) 1 rfl _ hh2 (by rw [splice_nil, Hlc.out]; omega) ?_; intro w3 hh3 hgr3)
    go_ret
    refine ⟨rfl, ?_, (grown_drew hgr2).trans hgr3⟩
    rw [splice_nil] at hh3
    refine own_cut HB.out hh3 (by omega) (by simp only [maxLen]; omega) Hlc.out (by simp [Value.cells]; omega) ?_ (by rw [List.length_take, Hx.out]; omega)
    rw [← Htk.out, List.take_take]
    congr 1
    omega

set_option maxRecDepth 100000 in
set_option maxHeartbeats 2000000 in
/-- slices.Delete of another one. -/
theorem delete_b (B g m cap k : Nat) (xs : List Value) (w : World) (hv : w.ownsRow B 43 5 (.slice (some ⟨g, 0, none⟩) (m + 1) cap) (m + 1) xs) (hk : k ≤ m) (hne : ¬ cap = k + 1) (h1 : ∀ u ∈ xs, u.oneCell' = true) :
    Calls Try.prog 63 #[.slice (some ⟨g, 0, none⟩) (m + 1) cap, .int .i64 k, .int .i64 (k + 1)] w fun e w' => e = .returned (.slice (some ⟨g, 0, none⟩) m cap) ∧
      w'.ownsRow B 43 5 (.slice (some ⟨g, 0, none⟩) m cap) m (xs.take (k * 5) ++ xs.drop ((k + 1) * 5)) ∧ w.grownBy w' (some g) := by
  obtain ⟨hl, h2⟩ := hv
  rcases h2 with ⟨h, _⟩ | ⟨g', cap', cur, he, hB, hh, hnc, hcm, hcs, htk⟩
  · cases h
  injection he with e1 e2 e3
  injection e1 with e1
  injection e1 with e1
  subst e1 e3
  clear e2
  unfold maxLen at hcm
  have i0 : (0 : Int) ≤ (k : Int) := by omega
  have i1 : (k : Int) ≤ (k : Int) + 1 := by omega
  have i4 : ((k : Int) == (k : Int) + 1) = false := by simp; omega
  have j2 : (0 : Int) ≤ (k : Int) + 1 := by omega
  have i2 : (k : Int) + 1 ≤ ((m + 1 : Nat) : Int) := by omega
  have i2' : (k : Int) + 1 ≤ (m : Int) + 1 := by omega
  have i3 : ((m + 1 : Nat) : Int) ≤ (cap : Int) := by omega
  have i3' : (m : Int) + 1 ≤ (cap : Int) := by omega
  have i5 : (k : Int) + 1 ≤ (cap : Int) := by omega
  have i6 : ¬ cap = 0 := by omega
  have i8 : ¬ cap = m := by omega
  have j1 : k ≤ cap := by omega
  have j3 : k + 1 ≤ m + 1 := by omega
  have j4 : k + 1 ≤ cap := by omega
  have j5 : m ≤ m + 1 := by omega
  have j6 : m + 1 ≤ cap := by omega
  have HH := Lib.hid hh
  have H1 := Lib.hid h1
  have Hlc := Lib.hid (show cur.toList.length = cap * 5 by rw [Array.length_toList, hcs])
  have Hx := Lib.hid hl
  have Htk := Lib.hid htk
  have HB := Lib.hid hB
  have hlen : (xs.drop ((k + 1) * 5)).length = (m + 1 - (k + 1)) * 5 := by rw [List.length_drop, hl]; omega
  have Hlen := Lib.hid hlen
  have hsz := lt_of_heap hh
  have hcell : ∀ j u, (xs.drop ((k + 1) * 5))[j]? = some u → w.cell? ⟨g, (k + 1) * 5 + j, none⟩ = some u := by
    intro j u hj
    rw [List.getElem?_drop, ← htk, List.getElem?_take] at hj
    split at hj
    · simpa [World.cell?, hh] using hj
    · cases hj
  have hs1 : ∀ q c, q = m + 1 - (k + 1) → q ≤ c → c ≤ maxLen → Sl (fun _ => True) w 5 (.slice (some ⟨g, (k + 1) * 5, none⟩) q c) (m + 1 - (k + 1)) (xs.drop ((k + 1) * 5)) := fun q c hq h2 h3 => by
    subst hq
    exact ⟨hlen, _, _, rfl, h2, h3, fun h => ⟨g, _, rfl, trivial, hsz, hcell⟩⟩
  have Hs1 := Lib.hid hs1
  have hnk : k + (m + 1 - (k + 1)) = m := by omega
  have Hnk := Lib.hid hnk
  have Hnk2 := Lib.hid (show k + (m - k) = m by omega)
  clear hh h1 hcs hl htk hlen hcell hs1 hnk
  go_enter Try.func63, Try.ntmps63
  go_wp2
  go_region_law ((refine step_append_in _ (by rfl) (.tmp 22) (.tmp 25) _ (by rfl) 43 _ 5 72 Try.underlying105 info_bk' g k cap (by rfl) cur.toList (by exact HH.out) (fun _ => True) _ (m + 1 - (k + 1)) (xs.drop ((k + 1) * 5)) (by rfl) (by exact Hs1.out _ _ (by omega) (by omega) (by simp only [maxLen]; omega)) (fun u hu => H1.out u (List.mem_of_mem_drop hu)) (by omega) (by rw [Hlc.out]; omega) ?_; intro w2 hh2 hgr2))
  all_goals try (first | rw [Hnk.out] | rw [Hnk2.out])
  all_goals
    go_wp2_with (refine wpList_clear_one _ rfl (.tmp 31) 105 rfl 43 _ 5 72 Try.underlying105 info_bk' rfl bkz_one g (m * 5) (cap - m) rfl _ hh2 (by rw [length_splice _ _ _ (by rw [Hlen.out, Hlc.out]; omega), Hlc.out]; omega) ?_; intro w3 hh3 hgr3)
    go_ret
    refine ⟨rfl, ?_, (grown_drew hgr2).trans hgr3⟩
    refine own_cut HB.out hh3 (by omega) (by simp only [maxLen]; omega) (by rw [length_splice _ _ _ (by rw [Hlen.out, Hlc.out]; omega), Hlc.out]) (by simp [Value.cells]; omega) ?_ (by rw [List.length_append, List.length_take, Hlen.out, Hx.out]; omega)
    have e1 : List.take (k * 5) cur.toList = xs.take (k * 5) := by
      rw [← Htk.out, List.take_take]; congr 1; omega
    unfold splice
    rw [e1, ← List.append_assoc, List.take_append_of_le_length (by rw [List.length_append, List.length_take, Hlen.out, Hx.out]; omega)]
    exact List.take_of_length_le (by rw [List.length_append, List.length_take, Hlen.out, Hx.out]; omega)
theorem delete_any (B g m cap k : Nat) (xs : List Value) (w : World) (hv : w.ownsRow B 43 5 (.slice (some ⟨g, 0, none⟩) (m + 1) cap) (m + 1) xs) (hk : k ≤ m) (h1 : ∀ u ∈ xs, u.oneCell' = true) :
    Calls Try.prog 63 #[.slice (some ⟨g, 0, none⟩) (m + 1) cap, .int .i64 k, .int .i64 (k + 1)] w fun e w' => e = .returned (.slice (some ⟨g, 0, none⟩) m cap) ∧
      w'.ownsRow B 43 5 (.slice (some ⟨g, 0, none⟩) m cap) m (xs.take (k * 5) ++ xs.drop ((k + 1) * 5)) ∧ w.grownBy w' (some g) := by
  by_cases hc : cap = k + 1
  · have hmk : m = k := by
      rcases hv.2 with ⟨h, _⟩ | ⟨g', cap', cur, he, _, _, h3, _⟩
      · cases h
      · injection he with _ _ e3
        omega
    subst hmk hc
    refine (delete_a B g m xs w hv).mono fun e w' ⟨he, h2, h3⟩ => ⟨he, ?_, h3⟩
    rw [List.drop_of_length_le (by have := hv.1; omega), List.append_nil]
    exact h2
  · exact delete_b B g m cap k xs w hv hk hc h1


end Go.Proofs.Ythghcdddambaeaa
/-
  slices.Clone and slices.Delete of backups, as contracts.
-/
set_option linter.unusedVariables false
set_option linter.unusedSimpArgs false
namespace Go.Proofs.Ythghcdddambaeaa
open Go.RowKit

/-! ### as contracts -/
theorem row_one {I : Nat → Prop} {w : World} {u : U} {xs : List (El u)} {cs : List Value} (hz : 0 < sz u) (hl : cs.length = xs.length * sz u) (h : RecsU I w u xs cs) : ∀ v ∈ cs, v.oneCell' = true := fun v hv => by
  obtain ⟨k, hk, rfl⟩ := List.getElem_of_mem hv
  obtain ⟨e1, e2, e3⟩ := sz_div (show k < xs.length * sz u by omega)
  obtain ⟨v', h1, h2⟩ := DenU.one u _ _ (h (k / sz u) _ (List.getElem?_eq_getElem e1)) (k % sz u) e2
  rw [e3, List.getElem?_eq_getElem hk] at h1
  injection h1 with h1
  rw [h1]; exact h2
theorem DenU.bd {I : Nat → Prop} {w : World} {u : U} {x : El u} {c c' : Nat → Option Value} (h : DenU I w u x c) (hc : ∀ j v, j < sz u → c j = some v → c' j = some v) : DenU I w u x c' :=
  DenU.mk u x c' (DenU.wf u x c h) fun j hj => by
    obtain ⟨v, h1, h2⟩ := DenU.cell u x c j h hj
    exact ⟨v, hc j v hj h1, h2⟩
theorem recs_erase {I : Nat → Prop} {w : World} {u : U} {xs : List (El u)} {cs : List Value} {k : Nat} (hk : k < xs.length) (hl : cs.length = xs.length * sz u) (h : RecsU I w u xs cs) : RecsU I w u (xs.eraseIdx k) (cs.take (k * sz u) ++ cs.drop ((k + 1) * sz u)) := fun i x hi => by
  rw [List.getElem?_eraseIdx] at hi
  have hks : (k + 1) * sz u ≤ xs.length * sz u := Nat.mul_le_mul_right _ hk
  have hk1 : (k + 1) * sz u = k * sz u + sz u := Nat.succ_mul k (sz u)
  have hlt : (cs.take (k * sz u)).length = k * sz u := by rw [List.length_take]; omega
  split at hi
  · rename_i hik
    have : (i + 1) * sz u ≤ k * sz u := Nat.mul_le_mul_right _ hik
    rw [Nat.succ_mul] at this
    refine (h i x hi).bd fun j v hj hv => ?_
    rw [List.getElem?_append_left (by omega), List.getElem?_take, if_pos (by omega)]
    exact hv
  · rename_i hik
    have : k * sz u ≤ i * sz u := Nat.mul_le_mul_right _ (by omega)
    have e1 : (i + 1) * sz u = i * sz u + sz u := Nat.succ_mul i (sz u)
    refine (h (i + 1) x hi).bd fun j v hj hv => ?_
    rw [List.getElem?_append_right (by omega), List.getElem?_drop, hlt]
    rw [← hv]
    congr 1
    omega
theorem hdr_some {p : Pl} {g n cap : Nat} (h : p.hdr = .slice (some ⟨g, 0, none⟩) n cap) : p.hdr.ownBlock = some g := by rw [h]; rfl
set_option maxRecDepth 100000 in
theorem cloneB_fn (L : List Bup) (h0 : 0 < L.length) (hL : L.length ≤ 4294967296) :
    Fn Try.prog 64 [vOwn 1001] [(1001, .row 43 uB L)] [1002] (vOwn 1002) [(1001, .row 43 uB L), (1002, .row 43 uB L)] := by
  refine ⟨by kernel_rfl, ?_⟩
  intro ρ F I w vals hI hH hF hdj hlen hden
  match vals, hlen with
  | [v], _ =>
    obtain rfl : v = (ρ 1001).hdr := hden 0 _ v rfl rfl
    have hh := hH 1001 _ rfl
    obtain ⟨hF1, hbk, cs, how, hrec⟩ := hh
    refine (clone_bks (ρ 1001).hdr L.length cs w how hL (row_one (by decide) how.1 hrec) h0).mono ?_
    rintro e w' ⟨v', rfl, hown, hb⟩
    rcases hown.2 with ⟨_, hn⟩ | ⟨g, cap, cur, rfl, hg, hg2, hcap, hm, hcs, htk⟩
    · omega
    have hgs : g < w'.heap.size := (Array.getElem?_eq_some_iff.1 hg2).1
    have hE : Ext I w I w' := fun b hbI => ⟨hbI, hb.block b (hI b hbI)⟩
    refine ⟨_, upd ρ 1002 ⟨g, some ⟨g, 0, none⟩, L.length, cap⟩, upd F 1002 (fun b => b = g), rfl, Fr.of_below hb, ?_, I, hE, ?_, ?_, ?_, ?_, ?_⟩
    · intro c hc
      exact upd_other _ _ (fun e => hc (by simp [e]))
    · intro b hbI
      exact ⟨Nat.lt_of_lt_of_le (hI b hbI) hb.size, .inl hbI⟩
    · intro c ch hc
      rw [lookB_cons] at hc
      split at hc
      · rename_i hc1; subst hc1; injection hc with hc; subst hc
        rw [upd_other _ _ (by decide), upd_other _ _ (by decide)]
        exact ⟨hF1, hbk, cs, ownsRow_block how (fun b hb2 => hb.block b ((hF 1001 _ rfl b ((hF1 b).2 hb2)).1)), hrec.mono hE⟩
      · rw [lookB_cons] at hc
        split at hc
        · rename_i hc1; subst hc1; injection hc with hc; subst hc
          rw [upd_same, upd_same]
          exact ⟨fun b => ⟨fun e => by subst e; rfl, fun e => by injection e with e; exact e.symm⟩, fun b e => by injection e with e; exact e.symm, cs, ⟨hown.1, .inr ⟨g, cap, cur, rfl, Nat.zero_le _, hg2, hcap, hm, hcs, htk⟩⟩, hrec.mono hE⟩
        · simp [lookB] at hc
    · intro c ch hc b hbF
      rw [lookB_cons] at hc
      split at hc
      · rename_i hc1; subst hc1
        rw [upd_other _ _ (by decide)] at hbF
        have := hF 1001 _ rfl b hbF
        exact ⟨Nat.lt_of_lt_of_le this.1 hb.size, this.2, .inl ⟨1001, _, rfl, hbF⟩⟩
      · rw [lookB_cons] at hc
        split at hc
        · rename_i hc1; subst hc1
          rw [upd_same] at hbF
          subst hbF
          exact ⟨hgs, fun hbI => by have := hI _ hbI; omega, .inr hg⟩
        · simp [lookB] at hc
    · intro c c' ch ch' b hc hc' hne hb1 hb2
      rw [lookB_cons] at hc hc'
      have key : ∀ b, F 1001 b → ¬ b = g := fun b hb1 e => by have := (hF 1001 _ rfl b hb1).1; omega
      split at hc
      · rename_i hc1; subst hc1
        rw [upd_other _ _ (by decide)] at hb1
        rw [if_neg hne, lookB_cons] at hc'
        split at hc'
        · rename_i hc1; subst hc1; rw [upd_same] at hb2; exact key b hb1 hb2
        · simp [lookB] at hc'
      · rw [lookB_cons] at hc
        split at hc
        · rename_i hc1; subst hc1
          rw [upd_same] at hb1
          split at hc'
          · rename_i hc1; subst hc1; rw [upd_other _ _ (by decide)] at hb2; exact key b hb2 hb1
          · rw [lookB_cons, if_neg hne] at hc'
            simp [lookB] at hc'
        · simp [lookB] at hc
    · show _ = Pl.hdr (upd ρ 1002 _ 1002)
      rw [upd_same]
      rfl
set_option maxRecDepth 100000 in
theorem deleteB_fn (L : List Bup) (k : Nat) (hk : k < L.length) :
    Fn Try.prog 63 [vOwn 1001, vI k, vI (k + 1)] [(1001, .row 43 uB L)] [1002] (vOwn 1002) [(1002, .row 43 uB (L.eraseIdx k))] := by
  refine ⟨by kernel_rfl, ?_⟩
  intro ρ F I w vals hI hH hF hdj hlen hden
  match vals, hlen with
  | [v, v1, v2], _ =>
    obtain rfl : v = (ρ 1001).hdr := hden 0 _ v rfl rfl
    obtain rfl : v1 = .int .i64 k := hden 1 _ v1 rfl rfl
    obtain rfl : v2 = .int .i64 (k + 1) := hden 2 _ v2 rfl rfl
    have hh := hH 1001 _ rfl
    obtain ⟨hF1, hbk, cs, how, hrec⟩ := hh
    have hone := row_one (by decide) how.1 hrec
    have how1 := how
    obtain ⟨hcl, h2⟩ := how
    rcases h2 with ⟨_, hn⟩ | ⟨g, cap, cur, hhdr, hg, hg2, hcap, hm, hcs, htk⟩
    · omega
    have hgF : F 1001 g := (hF1 g).2 (by rw [hhdr]; rfl)
    obtain ⟨m, hmL⟩ : ∃ m, L.length = m + 1 := ⟨L.length - 1, by omega⟩
    rw [hhdr, hmL] at how1
    rw [hhdr, hmL]
    have hgz : g < w.heap.size := (Array.getElem?_eq_some_iff.1 hg2).1
    refine (delete_any 0 g m cap k cs w how1 (by omega) hone).mono ?_
    rintro e w' ⟨rfl, hown, hgr⟩
    have hE : Ext I w I w' := fun b hbI => ⟨hbI, hgr.block b (hI b hbI) (fun e => by injection e with e; subst e; exact (hF 1001 _ rfl _ hgF).2 hbI)⟩
    have hle : (L.eraseIdx k).length = m := by rw [List.length_eraseIdx_of_lt hk]; omega
    have hFg : ∀ b, F 1001 b ↔ b = g := fun b => by rw [hF1, hhdr]; exact ⟨fun e => by injection e with e; exact e.symm, fun e => by subst e; rfl⟩
    have look : ∀ c ch, lookB [(1002, Ch.row 43 uB (L.eraseIdx k))] c = some ch → c = 1002 ∧ ch = Ch.row 43 uB (L.eraseIdx k) := fun c ch hc => by
      rw [lookB_cons] at hc
      split at hc
      · rename_i hc1; injection hc with hc; exact ⟨hc1.symm, hc.symm⟩
      · simp [lookB] at hc
    refine ⟨_, upd ρ 1002 ⟨g, some ⟨g, 0, none⟩, m, cap⟩, upd F 1002 (fun b => b = g), rfl, fr_grown hgr (fun b e => by injection e with e; subst e; exact ⟨1001, _, rfl, hgF⟩), ?_, I, hE, ?_, ?_, ?_, ?_, ?_⟩
    · intro c hc
      exact upd_other _ _ (fun e => hc (by simp [e]))
    · intro b hbI
      exact ⟨Nat.lt_of_lt_of_le (hI b hbI) hgr.size, .inl hbI⟩
    · intro c ch hc
      obtain ⟨rfl, rfl⟩ := look c ch hc
      rw [upd_same, upd_same]
      refine ⟨fun b => ⟨fun e => by subst e; rfl, fun e => by injection e with e; exact e.symm⟩, fun b e => by injection e with e; exact e.symm, _, ?_, recs_erase hk hcl (hrec.mono hE)⟩
      rw [hle]
      exact hown
    · intro c ch hc b hbF
      obtain ⟨rfl, rfl⟩ := look c ch hc
      rw [upd_same] at hbF
      subst hbF
      have := hF 1001 _ rfl _ hgF
      exact ⟨Nat.lt_of_lt_of_le this.1 hgr.size, this.2, .inl ⟨1001, _, rfl, hgF⟩⟩
    · intro c c' ch ch' b hc hc' hne
      exact absurd ((look c ch hc).1.trans (look c' ch' hc').1.symm) hne
    · show _ = Pl.hdr (upd ρ 1002 _ 1002)
      rw [upd_same]
      rfl
end Go.Proofs.Ythghcdddambaeaa
