/-
  safe.Load; list.Load, list.Commit over files.
-/
import Derived.Test.YthghcdddambaeaaSp
import Derived.Test.YthghcdddambaeaaOA
import Derived.Test.YthghcdddambaeaaFi
set_option linter.unusedVariables false
set_option linter.unusedSimpArgs false
set_option maxRecDepth 10000
namespace Go.Proofs.Ythghcdddambaeaa
open Go.RowKit Go.Proofs
theorem sload_fn {m : StM} (ho : StOK m) (h2 : 2 ≤ m.n) {s : Nat} {M : SPool} (hM : sget M s = some m) {b : List UInt8} (hj : newJ m 2 = (0, b, 1)) : Fn Try.prog 91 [vAd s] [(1003, .obj (.pool (poolS M)))] [] (.tup [.one (.d (.lst .u8 b)), .one (.d (.int .i64 1)), vErr 0]) [(1003, .obj (.pool (poolS M)))] := by
  have hn := newest_fn ho h2 hM
  rw [hj] at hn
  refine Fn.of tblOK [] _ _ _ _ _ Try.func91 rfl rfl (by kernel_rfl) (by kernel_rfl) rfl (drawOK tblOK) rfl ?_
  refine ⟨_, _, _, _, hn, ⟨rfl, trivial⟩, rfl, ?_⟩
  refine ⟨fun h => absurd h (show ¬ decide ((0 : Int) < 0) = true by decide), fun _ => ?_⟩
  exact ⟨_, _, _, Le.refl _ _, rfl, ⟨rfl, rfl, rfl, trivial⟩, ⟨rfl, trivial⟩, rfl⟩
@[reducible] def lNm : List UInt8 := [108, 105, 115, 116]
@[reducible] def nNm : List UInt8 := [108, 105, 115, 116, 46, 110, 101, 119]
@[reducible] def lstP (c d : Nat) (L : List Bup) : BL := [(c, .cells [.own d]), (d, .row 43 uB L)]
theorem lload_fn (room : Int) (es : FMap) {L : SPool} {a : Nat} {m : StM} (ha : fget es lNm = some a) (hm : sget L a = some m) (ho : StOK m) (h2 : 2 ≤ m.n) {Q : List Bup} (hj : newJ m 2 = (0, encL Q, 1)) (hl : (encL Q).length ≤ 100000000) (hA : Adb Q) (hw : ∀ b, b ∈ Q → Wr b) (hq : Q.length ≤ 64) :
    Fn Try.prog 41 [vP 1001] (flS 1001 1002 1003 room es L) [2001, 2002] (.tup [.one (.ptr 2001 0), vErr 0]) (flS 1001 1002 1003 room es L ++ lstP 2001 2002 ((Q.map toR).map ownOf)) := by
  have hd := decode_both (encL Q) hl (some (Q.map toR)) (dec_enc hA hw hq)
  simp only at hd
  refine Fn.of tblOK [] _ _ _ _ _ Try.func41 rfl rfl (by kernel_rfl) (by kernel_rfl) rfl (drawOK tblOK) rfl ?_
  refine ⟨_, _, _, _, fopen_ok room es lNm a ha, ⟨rfl, rfl, trivial⟩, rfl, ?_⟩
  refine ⟨fun h => absurd h (by decide), fun _ => ?_⟩
  refine ⟨_, _, _, _, sload_fn ho h2 hm hj, ⟨rfl, trivial⟩, rfl, ?_⟩
  refine ⟨fun h => absurd h (by decide), fun _ => ?_⟩
  refine ⟨_, _, _, _, Fn.ren [(1001, 2001), (1002, 2002)] hd, trivial, rfl, ?_⟩
  exact ⟨_, _, _, Le.refl _ _, rfl, ⟨rfl, rfl, trivial⟩, ⟨rfl, rfl, rfl, rfl, rfl, trivial⟩, rfl⟩
set_option maxHeartbeats 1000000 in
theorem commit_fn (room : Int) (hr : 2000 ≤ room) (es : FMap) {M : SPool} (h1 : fget (delA es nNm) nNm = none) (h2 : (delA es nNm).length < 16) (h3 : ∀ b, fget (putA (delA es nNm) nNm (some b)) nNm = some b) {Q : List Bup} (hq : Q.length ≤ 255) (hw : ∀ b, b ∈ Q → Wr b) (hl : (encL Q).length ≤ 15984) :
    FnX Try.prog 36 [vP 3001, vP 1001, vI 2000] (flS 1001 1002 1003 room es M ++ lstP 3001 3002 Q) [] (X := { b : Nat // b ∉ M.map (·.1) }) (fun _ => vI 0)
      (fun g => flS 1001 1002 1003 room (putA (delA (putA (delA es nNm) nNm (some g.1)) nNm) lNm (some g.1)) ((g.1, savedM 2000 room (encL Q)) :: M) ++ lstP 3001 3002 Q) := by
  refine FnX.of tblOK [2,3] _ _ _ _ _ Try.func36 rfl rfl (by kernel_rfl) (by kernel_rfl) rfl (drawOK tblOK) rfl ?_
  refine ⟨_, _, _, _, fremove_fn room es nNm, ⟨rfl, rfl, trivial⟩, rfl, ?_⟩
  show TrQ _ _ _ _ _ _ _
  refine TrQ.regionX tblOK (by kernel_rfl) ?_
  refine ⟨Nat, _, _, fun b => _, fun b => _, fcreate_ok room (delA es nNm) (poolS M) nNm 2000 (by decide) rfl (by rw [decide_eq_true (show 0 ≤ room by omega)]; rfl) h1 h2, ⟨rfl, rfl, rfl, trivial⟩, rfl, fun _ => rfl, fun b => ?_⟩
  show TrQ _ _ _ _ _ _ _
  refine TrQ.leX (LeX.poolNew 1003 (L := M) (b := b) (m := freshM 2000 room) rfl) fun hb => ?_
  refine TrQ.go tblOK (drawOK tblOK) [] (by kernel_rfl) (Le.refl _ _) ?_
  refine ⟨fun h => absurd h (by decide), fun _ => ?_⟩
  refine ⟨_, _, _, _, Fn.ren [(1001, 3001), (1002, 3002)] (encode_spec Q hq hw), ⟨rfl, rfl, trivial⟩, rfl, ?_⟩
  have hgt : sget ((b, freshM 2000 room) :: M) b = some (freshM 2000 room) := by rw [sget_cons, if_pos rfl]
  have hsv := save_fn (m := freshM 2000 room) (StOK.new (n := 2000) (room := room) rfl) (show (2 : Int) ≤ 2000 by decide) hr (Nat.zero_le _) hgt (encL Q) (by show _ ≤ areaS 2000 * 16; rw [show areaS 2000 = 999 by decide]; omega) (by rw [newJ_fresh]; decide) (by rw [newJ_fresh]; decide) (by rw [newJ_fresh]; decide)
  rw [newJ_fresh] at hsv
  have hset : sset ((b, freshM 2000 room) :: M) b (savedM 2000 room (encL Q)) = (b, savedM 2000 room (encL Q)) :: M := if_pos rfl
  have hsv : Fn Try.prog 78 [vAd b, vL .u8 (encL Q)] [(1003, .obj (.pool (poolS ((b, freshM 2000 room) :: M))))] [] (vI 0) [(1003, .obj (.pool (poolS ((b, savedM 2000 room (encL Q)) :: M))))] := by
    rw [← hset]
    exact hsv
  refine ⟨_, _, _, _, hsv, ⟨rfl, trivial⟩, rfl, ?_⟩
  refine ⟨fun h => absurd h (by decide), fun _ => ?_⟩
  refine ⟨_, _, _, _, frename_ok room (putA (delA es nNm) nNm (some b)) nNm lNm b (by decide) rfl (h3 b), ⟨rfl, rfl, trivial⟩, rfl, ?_⟩
  exact ⟨⟨b, hb.down⟩, _, _, _, Le.refl _ _, rfl, rfl, ⟨rfl, rfl, rfl, rfl, rfl, trivial⟩, rfl⟩
end Go.Proofs.Ythghcdddambaeaa
