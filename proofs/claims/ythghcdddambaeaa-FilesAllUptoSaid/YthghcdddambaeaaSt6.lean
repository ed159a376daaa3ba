/-
  maps.DeleteFunc; the store: Resize.
-/
import Derived.Test.YthghcdddambaeaaSt5
set_option linter.unusedVariables false
set_option linter.unusedSimpArgs false
set_option maxRecDepth 10000
namespace Go.Proofs.Ythghcdddambaeaa
open Go.RowKit Go.Proofs
abbrev EnI (vu : U) := Nat × (El uI × El vu)
def kI {vu : U} (p : EnI vu) : Int := p.2.1
theorem eqKey_int (a b : Int) : (eqKey uI (a : El uI) (b : El uI) = true) ↔ a = b := by
  show eqI a b = true ↔ a = b
  unfold eqI
  exact decide_eq_true_iff
/-- The entries that are left behind those of 'seen': whoever was seen and is to go is gone. -/
def gone {vu : U} (n : Int) (seen : List Nat) (l : List (EnI vu)) : List (EnI vu) := l.filter fun p => !(seen.contains p.1 && decide (n ≤ kI p))
theorem gdel_filter {vu : U} : ∀ {l : List (EnI vu)} {p : EnI vu}, p ∈ l → (l.map (·.1)).Nodup → (l.map kI).Nodup → gdel l p.2.1 = l.filter fun q => !decide (q.1 = p.1)
  | [], _, h, _, _ => by cases h
  | q :: l, p, h, h1, h2 => by
    rw [List.map_cons, List.nodup_cons] at h1 h2
    unfold gdel
    rcases List.mem_cons.1 h with rfl | h
    · rw [List.eraseP_cons_of_pos (p := fun q : EnI vu => eqKey uI p.2.1 q.2.1) ((eqKey_int _ _).2 rfl), List.filter_cons_of_neg (by simp)]
      refine (List.filter_eq_self.2 fun q hq => ?_).symm
      have : q.1 ≠ p.1 := fun e => h1.1 (by rw [← e]; exact List.mem_map_of_mem hq)
      simp [this]
    · have hne : ¬ eqKey uI p.2.1 q.2.1 = true := fun e => by
        have e : kI p = kI q := (eqKey_int _ _).1 e
        exact h2.1 (by rw [← e]; exact List.mem_map_of_mem h)
      have hne2 : q.1 ≠ p.1 := fun e => h1.1 (by rw [e]; exact List.mem_map_of_mem h)
      have := gdel_filter h h1.2 h2.2
      unfold gdel at this
      rw [List.eraseP_cons_of_neg (p := fun q : EnI vu => eqKey uI p.2.1 q.2.1) hne, this, List.filter_cons_of_pos (by simp [hne2])]
theorem nodup_key {α β : Type} {f : α → β} : ∀ {l : List α}, (l.map f).Nodup → ∀ {p q : α}, p ∈ l → q ∈ l → f p = f q → p = q
  | [], _, _, _, h, _, _ => by cases h
  | a :: l, h, p, q, hp, hq, e => by
    rw [List.map_cons, List.nodup_cons] at h
    rcases List.mem_cons.1 hp with hp | hp <;> rcases List.mem_cons.1 hq with hq | hq
    · rw [hp, hq]
    · exact absurd (by rw [← hp, e]; exact List.mem_map_of_mem hq) h.1
    · exact absurd (by rw [← hq, ← e]; exact List.mem_map_of_mem hp) h.1
    · exact nodup_key h.2 hp hq e
theorem gone_step {vu : U} {n : Int} {seen : List Nat} {l : List (EnI vu)} {p : EnI vu} (hp : p ∈ gone n seen l) (h1 : (l.map (·.1)).Nodup) (h2 : (l.map kI).Nodup) (hn : p.1 ∉ seen) :
    (match decide (n ≤ kI p) with | true => gdel (gone n seen l) p.2.1 | false => gone n seen l) = gone n (seen ++ [p.1]) l := by
  have hpl : p ∈ l := (List.mem_filter.1 hp).1
  cases hd : decide (n ≤ kI p) with
  | true =>
    simp only
    rw [gdel_filter hp (h1.sublist (List.filter_sublist.map _)) (h2.sublist (List.filter_sublist.map _))]
    unfold gone
    rw [List.filter_filter]
    refine List.filter_congr fun q hq => ?_
    by_cases e : q.1 = p.1
    · have := nodup_key h1 hq hpl e
      subst this
      simp [hd]
    · simp [e]
  | false =>
    simp only
    unfold gone
    refine List.filter_congr fun q hq => ?_
    by_cases e : q.1 = p.1
    · have := nodup_key h1 hq hpl e
      subst this
      simp [hd]
    · simp [e]
theorem gone_all {vu : U} {n : Int} {seen : List Nat} {l : List (EnI vu)} (h : ∀ p ∈ gone n seen l, p.1 ∈ seen) : gone n seen l = l.filter fun p => decide (kI p < n) := by
  unfold gone at h ⊢
  refine List.filter_congr fun p hp => ?_
  by_cases hs : p.1 ∈ seen
  · rw [Bool.eq_iff_iff]; simp [hs]
  · exact absurd (h p (List.mem_filter.2 ⟨hp, by simp [hs]⟩)) hs
def unseen {vu : U} (seen : List Nat) (l : List (EnI vu)) : List (EnI vu) := l.filter fun p => !seen.contains p.1
theorem unseen_lt {vu : U} {seen : List Nat} {l : List (EnI vu)} {p : EnI vu} (hp : p ∈ l) (hn : p.1 ∉ seen) : (unseen (seen ++ [p.1]) l).length < (unseen seen l).length := by
  have e : unseen (seen ++ [p.1]) l = (unseen seen l).filter fun q => !decide (q.1 = p.1) := by
    unfold unseen
    rw [List.filter_filter]
    refine List.filter_congr fun q _ => ?_
    by_cases e : q.1 = p.1 <;> simp [e]
  rw [e]
  have hm : p ∈ unseen seen l := List.mem_filter.2 ⟨hp, by simp [hn]⟩
  exact List.length_filter_lt_length_iff_exists.2 ⟨p, hm, by simp⟩
theorem resize1_fn (n k : Int) (y : El uX) : Fn Try.prog 135 [vI k, .c (.agg (listU uX y 0 16)), vP 1001] [(1001, .cells [.d (.int .i64 n)])] [] (vB (decide (n ≤ k))) [(1001, .cells [.d (.int .i64 n)])] := by
  refine Fn.of tblOK [] _ _ _ _ _ Try.func135 rfl rfl (by kernel_rfl) (by kernel_rfl) rfl (drawOK tblOK) rfl ?_
  refine ⟨rfl, ?_⟩
  exact ⟨_, _, _, Le.refl _ _, rfl, rfl, ⟨rfl, trivial⟩, rfl⟩
@[reducible] def dfK (r : Nat) : KL := [(0, .c (.one (.mp 1001))), (1, .c (.one (.clo 135 [.p 1002 0]))), (7, vP r)]
@[reducible] def dfB (n : Int) (b clock : Nat) (seen : List Nat) (l : List (EnI uX)) : BL := [(1001, .obj (.mapG b uI uX l clock)), (7, .obj (.iterG b clock seen clock)), (1002, .cells [.d (.int .i64 n)])]
set_option maxHeartbeats 1000000 in
theorem deleteFunc_fn (n : Int) (es : SMap) (hn : (es.map fun p => (show Int from p.1)).Nodup) :
    Fn Try.prog 134 [.c (.one (.mp 1001)), .c (.one (.clo 135 [.p 1002 0]))] [(1001, .map uI uX es), (1002, .cells [.d (.int .i64 n)])] [] vU [(1001, .map uI uX (es.filter fun p => decide ((show Int from p.1) < n))), (1002, .cells [.d (.int .i64 n)])] := by
  refine Fn.of tblOK [0] _ _ _ _ _ Try.func134 rfl rfl (by kernel_rfl) (by kernel_rfl) rfl (drawOK tblOK) rfl ?_
  show TrQ _ _ _ _ _ _ _
  refine TrQ.leX (LeX.nameMap 1001 rfl) fun x => ?_
  obtain ⟨b, l, clock, hsnd, hrise, hlt⟩ := x
  refine TrQ.go tblOK (drawOK tblOK) [] (by kernel_rfl) (Le.refl _ _) ?_
  refine ⟨_, _, fun N => opOK_range (d := 7) rfl Try.underlying174 rfl rfl N, rfl, ?_⟩
  show TrQ _ _ _ _ _ _ _
  have hb : (l.map (·.1)).Nodup := hrise.imp fun h => by omega
  have hk : (l.map kI).Nodup := by
    rw [← hsnd, List.map_map] at hn
    exact hn
  refine TrQ.loop tblOK (drawOK tblOK) [1, 4] (by kernel_rfl) (X := List Nat) (fun _ => dfK 7) (fun seen => dfB n b clock seen (gone n seen l)) (fun _ => True) (fun seen => (unseen seen l).length) [] trivial ?_ ?_
  · refine Le.sub ⟨rfl, rfl, rfl, trivial⟩ ⟨?_, rfl, rfl, trivial⟩
    have : gone n [] l = l := List.filter_eq_self.2 fun p _ => by simp
    rw [this]
    rfl
  intro seen _
  show TrQ _ _ _ _ _ _ _
  refine TrQ.regionX tblOK (by kernel_rfl) ?_
  refine ⟨_, opS_next (c := 1001) (r := 7) rfl rfl rfl rfl (fun p hp => hlt _ (List.mem_map_of_mem (List.mem_filter.1 hp).1)) (Nat.le_refl _), fun v e h => ?_⟩
  rcases h with ⟨p, hp, hs, rfl, rfl⟩ | ⟨hall, rfl, rfl⟩
  · have hst := gone_step hp hb hk hs
    have hpl : p ∈ l := (List.mem_filter.1 hp).1
    refine ⟨_, _, fun N => opOK_entry (c := 1001) (r := 7) (p := p) rfl rfl rfl rfl hp N, rfl, ?_⟩
    refine ⟨rfl, ?_⟩
    refine ⟨_, _, _, _, Fn.ren [(1001, 1002)] (resize1_fn n p.2.1 p.2.2), ⟨rfl, trivial⟩, rfl, ?_⟩
    refine ⟨fun h2 => ?_, fun h2 => ?_⟩
    · have h2 : decide (n ≤ kI p) = true := h2
      rw [h2] at hst
      show TrQ _ _ _ _ _ _ _
      refine TrQ.regionX tblOK (by kernel_rfl) ?_
      refine ⟨_, OpS.of fun N => opOK_gdelete (c := 1001) (ku := uI) (vu := uX) (key := p.2.1) rfl Try.underlying174 (d := .int .i64) (by kernel_rfl) rfl rfl rfl rfl N, fun v e h => ?_⟩
      obtain ⟨rfl, rfl⟩ := h
      refine ⟨seen ++ [p.1], trivial, unseen_lt hpl hs, Le.sub ⟨rfl, rfl, rfl, trivial⟩ ⟨?_, rfl, rfl, trivial⟩⟩
      rw [← hst]
      rfl
    · have h2 : decide (n ≤ kI p) = false := h2
      rw [h2] at hst
      refine ⟨seen ++ [p.1], trivial, unseen_lt hpl hs, Le.sub ⟨rfl, rfl, rfl, trivial⟩ ⟨?_, rfl, rfl, trivial⟩⟩
      rw [← hst]
      rfl
  · refine ⟨_, _, _, Le.mapOf 1001 rfl, rfl, trivial, ⟨?_, rfl, trivial⟩, rfl⟩
    rw [gone_all hall]
    show some (Ch.map uI uX (List.map (·.2) (l.filter fun p => decide (kI p < n)))) = _
    rw [← hsnd, List.filter_map]
    rfl
end Go.Proofs.Ythghcdddambaeaa
