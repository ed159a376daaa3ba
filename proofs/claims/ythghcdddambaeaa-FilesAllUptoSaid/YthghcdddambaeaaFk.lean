/-
  Files: Copy.
-/
import Derived.Test.YthghcdddambaeaaFj
set_option linter.unusedVariables false
set_option linter.unusedSimpArgs false
set_option maxRecDepth 10000
namespace Go.Proofs.Ythghcdddambaeaa
open Go.RowKit Go.Proofs
theorem sset_same {b : Nat} {m : StM} : ∀ {L : SPool}, sget L b = some m → sset L b m = L
  | [], h => by cases h
  | p :: L, h => by
    rw [sget_cons] at h
    show (if p.1 = b then (p.1, m) :: L else p :: sset L b m) = _
    split at h
    · rename_i e
      injection h with h
      rw [if_pos e, ← h]
    · rename_i e
      rw [if_neg e, sset_same h]
theorem poolCopy {m : StM} {L : SPool} {b : Nat} (hL : sget L b = some m) (hl : m.loose.length ≤ 4294967296) : Fn Try.prog 102 [vAd b] [(1003, .obj (.pool (poolS L)))] [2001] (vP 2001) [(1003, .obj (.pool (poolS L))), (2001, .obj (stO m))] := by
  have := (FnX.pool (c := 1001) (q := 1003) (b := b) (args := []) (Bi := []) (nw := [2001]) (X := Unit) (res := fun _ => vP 2001) (Bo := fun _ => [(2001, .obj (stO m))]) (o := stO m) (o' := fun _ => stO m) (L := poolS L) (scopy_fn m hl).x (by rw [pget_poolS, hL]; rfl) rfl ⟨rfl, rfl⟩ rfl (fun _ => rfl)).fn
  rw [pset_poolS, sset_same hL] at this
  exact this
/-- The store at an address. -/
def stD : StM := ⟨0, 0, [], [], []⟩
def stAt (L : SPool) : Option Nat → StM
  | some a => (sget L a).getD stD
  | none => stD
def cpO (L : SPool) (d : List (El .str × El .adr)) : List (El .str × Ob) := d.map fun p => (p.1, stO (stAt L (pA p)))
theorem eqKey_str (a b : List UInt8) : (eqKey .str (a : El .str) (b : El .str) = true) ↔ a = b := by
  show eqS a b = true ↔ a = b
  unfold eqS
  exact decide_eq_true_iff
@[reducible] def mkE (b : Nat) (k : El .str) (a : Nat) : EnA := (b, k, (some a : Option Nat))
@[reducible] def fyK : KL := [(0, vP 1001), (3, vP 12), (17, vP 17)]
@[reducible] def fyB (room : Int) (b clock : Nat) (done l : List EnA) (L : SPool) : BL := [(1001, .cells [.d (.int .i64 room), .mp 1002]), (1002, .obj (.mapG b .str .adr l clock)), (17, .obj (.iterG b clock (done.map (·.1)) clock)), (1003, .obj (.pool (poolS L))), (12, .cells [.d (.int .i64 room), .mp 10]), (10, .obj (.mapO .str (cpO L (done.map (·.2)))))]
structure DoneOK (l done : List EnA) : Prop where
  sub : ∀ e ∈ done, e ∈ l
  nd : (done.map (·.1)).Nodup
theorem fcopy_fn (room : Int) (es : List (El .str × El .adr)) (L : SPool) (W : Nat) (h : PoolOK es L W) (hn : (mkeys es).Nodup) (hW : W ≤ 1073741824) :
    FnX Try.prog 50 [vP 1001] (flS 1001 1002 1003 room es L) [2001, 2002] (X := { d : List (El .str × El .adr) // d.Perm es }) (fun _ => vP 2001)
      (fun d => flS 1001 1002 1003 room es L ++ [(2001, .cells [.d (.int .i64 room), .mp 2002]), (2002, .obj (.mapO .str (cpO L d.1)))]) := by
  refine FnX.of tblOK [2] _ _ _ _ _ Try.func50 rfl rfl (by kernel_rfl) (by kernel_rfl) rfl (drawOK tblOK) rfl ?_
  refine ⟨rfl, ?_⟩
  refine ⟨rfl, ?_⟩
  show TrQ _ _ _ _ _ _ _
  refine TrQ.leX (LeX.nameMap 1002 rfl) fun x => ?_
  obtain ⟨b, l, clock, hsnd, hrise, hlt⟩ := x
  refine TrQ.go tblOK (drawOK tblOK) [] (by kernel_rfl) (Le.refl _ _) ?_
  refine ⟨_, _, fun N => opOK_range (d := 17) rfl Try.underlying135 rfl rfl N, rfl, ?_⟩
  show TrQ _ _ _ _ _ _ _
  have hb : (l.map (·.1)).Nodup := hrise.imp fun h => by omega
  have hke : (l.map eK).Nodup := by
    rw [← hsnd] at hn
    unfold mkeys at hn
    rw [List.map_map] at hn
    exact hn
  refine TrQ.loop tblOK (drawOK tblOK) [3] (by kernel_rfl) (X := List EnA) (fun _ => fyK) (fun done => fyB room b clock done l L) (DoneOK l) (fun done => (unseenA (done.map (·.1)) l).length) [] ⟨fun e he => (by cases he), List.nodup_nil⟩ ?_ ?_
  · exact Le.trans (Le.emptyMapO 10 rfl) (Le.sub ⟨rfl, rfl, rfl, trivial⟩ ⟨rfl, rfl, rfl, rfl, rfl, rfl, trivial⟩)
  intro done hd
  show TrQ _ _ _ _ _ _ _
  refine TrQ.regionX tblOK (by kernel_rfl) ?_
  refine ⟨_, opS_next (c := 1002) (r := 17) rfl rfl rfl rfl (fun p hp => hlt _ (List.mem_map_of_mem hp)) (Nat.le_refl _), fun v e hv => ?_⟩
  rcases hv with ⟨p, hp, hs, rfl, rfl⟩ | ⟨hall, rfl, rfl⟩
  · have hpe : p.2 ∈ es := by rw [← hsnd]; exact List.mem_map_of_mem hp
    obtain ⟨a, ha, haL⟩ := h.ex _ hpe
    obtain ⟨m, hm⟩ := sget_of_mem haL
    have hmem := sget_mem hm
    have hlo := h.few _ hmem
    have hnew : ∀ q ∈ cpO L (done.map (·.2)), eqKey .str p.2.1 q.1 = false := by
      intro q hq
      unfold cpO at hq
      rw [List.map_map] at hq
      obtain ⟨e, he, rfl⟩ := List.mem_map.1 hq
      rw [Bool.eq_false_iff]
      intro hk
      have hk : eK p = eK e := (eqKey_str _ _).1 hk
      have := nodup_key hke hp (hd.sub e he) hk
      exact hs (this ▸ List.mem_map_of_mem he)
    have hmeas := unseenA_lt hp hs
    have hdn : DoneOK l (done ++ [p]) := by
      refine ⟨fun e he => ?_, ?_⟩
      · rcases List.mem_append.1 he with he | he
        · exact hd.sub e he
        · rw [List.mem_singleton] at he; rw [he]; exact hp
      · rw [List.map_append]
        exact List.nodup_append.2 ⟨hd.nd, by simp, fun x hx y hy => by
          rw [List.map_singleton, List.mem_singleton] at hy
          rw [hy]
          exact fun e => hs (e ▸ hx)⟩
    have hcp : cpO L ((done ++ [p]).map (·.2)) = cpO L (done.map (·.2)) ++ [(p.2.1, stO m)] := by
      unfold cpO
      rw [List.map_append, List.map_append]
      show _ ++ [(p.2.1, stO (stAt L (pA p.2)))] = _
      rw [ha]
      show _ ++ [(p.2.1, stO ((sget L a).getD stD))] = _
      rw [hm]
      rfl
    have hmd : (done ++ [p]).map (·.1) = done.map (·.1) ++ [p.1] := by rw [List.map_append]; rfl
    obtain ⟨pb, pk, pa⟩ := p
    have ha : pa = some a := ha
    subst ha
    refine ⟨_, _, fun N => opOK_entry (c := 1002) (r := 17) rfl rfl rfl rfl hp N, rfl, ?_⟩
    refine ⟨_, _, _, _, Fn.ren [(2001, 3001)] (poolCopy hm (by have := hlo; simp only at this; omega)), ⟨rfl, trivial⟩, rfl, ?_⟩
    refine ⟨_, _, fun N => opOK_putO (c := 10) (d := 3001) rfl Try.underlying135 (dk := .string) (by kernel_rfl) rfl rfl rfl rfl rfl rfl (by decide) hnew N, rfl, ?_⟩
    refine ⟨rfl, ?_⟩
    refine ⟨done ++ [mkE pb pk a], hdn, by rw [hmd]; exact hmeas, Le.sub ⟨rfl, rfl, rfl, trivial⟩ ⟨rfl, rfl, ?_, rfl, rfl, ?_, trivial⟩⟩
    · rw [hmd]; rfl
    · rw [hcp]; rfl
  · have hperm : (done.map (·.2)).Perm es := by
      rw [← hsnd]
      refine List.Perm.map _ ?_
      have n1 : done.Nodup := by
        have := hd.nd
        rw [List.Nodup, List.pairwise_map] at this
        exact this.imp fun h e => h (by rw [e])
      have n2 : l.Nodup := by
        have := hb
        rw [List.Nodup, List.pairwise_map] at this
        exact this.imp fun h e => h (by rw [e])
      refine (List.perm_ext_iff_of_nodup n1 n2).2 fun e => ⟨hd.sub e, fun he => ?_⟩
      obtain ⟨e', he', e1⟩ := List.mem_map.1 (hall e he)
      rw [← nodup_key hb (hd.sub e' he') he e1]
      exact he'
    refine ⟨⟨done.map (·.2), hperm⟩, _, _, _, ((Le.mapOf 1002 rfl).trans (Le.ren 12 2001 rfl)).trans (Le.ren 10 2002 rfl), rfl, rfl, ⟨rfl, ?_, rfl, rfl, rfl, trivial⟩, rfl⟩
    show some (Ch.map .str .adr (l.map (·.2))) = _
    rw [hsnd]
end Go.Proofs.Ythghcdddambaeaa
