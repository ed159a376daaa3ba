/-
  A saver's steps: the functions that it keeps, with what they have captured.
-/
import Derived.Test.YthghcdddambaeaaAd
import Derived.Test.YthghcdddambaeaaFi
set_option linter.unusedVariables false
set_option linter.unusedSimpArgs false
set_option maxRecDepth 10000
namespace Go.Proofs.Ythghcdddambaeaa
open Go.RowKit Go.Proofs
@[reducible] def fnF (s2 : Nat) : El .fn := ((81, [s2]) : Nat × List Nat)
@[reducible] def fnW (s2 a b : Nat) : El .fn := ((84, [s2, a, b]) : Nat × List Nat)
@[reducible] def svD (d : Nat) (e : Int) (sts : List (El .fn)) (L : List (Nat × Ob)) : BL := [(1001, .cells [.ptr 1002 0]), (1002, .cells [.own d, .d (.int .i64 e)]), (d, .row 124 .fn sts), (1005, .obj (.pool L))]
@[reducible] def svB (e : Int) (sts : List (El .fn)) (L : List (Nat × Ob)) : BL := svD 1006 e sts L
theorem begin2_fn (at_ : Int) (x : List UInt8) (s2 : Nat) (e : Int) (sts : List (El .fn)) (L : List (Nat × Ob)) (hl : sts.length ≤ 1000000) :
    FnX Try.prog 83 [vI at_, vL .u8 x, vP 1001, vAd s2] (svB e sts L) [2006] (X := Nat × Nat) (fun _ => vU) (fun g => svD 2006 e (sts ++ [fnW s2 g.1 g.2]) ((g.2, cellO (.lst .u8 x)) :: (g.1, cellO (.int .i64 at_)) :: L)) := by
  refine FnX.of tblOK [1] _ _ _ _ _ Try.func83 rfl rfl (by kernel_rfl) (by kernel_rfl) rfl (drawOK tblOK) rfl ?_
  refine ⟨rfl, ?_⟩
  refine ⟨rfl, ?_⟩
  show TrQ _ _ _ _ _ _ _
  refine TrQ.leX (LeX.box 4 4 1005 rfl rfl (by decide) rfl) fun b4 => ?_
  refine TrQ.leX (LeX.box 5 5 1005 rfl rfl (by decide) rfl) fun b5 => ?_
  refine TrQ.go tblOK (drawOK tblOK) [] (by kernel_rfl) (Le.refl _ _) ?_
  have hb : sts.length + 1 ≤ 4294967296 := by omega
  refine ⟨hb, rfl, rfl, ?_⟩
  exact ⟨(b4, b5), _, _, _, (Le.sub (K' := []) (B' := svD 13 e (sts ++ [fnW s2 b4 b5]) ((b5, cellO (.lst .u8 x)) :: (b4, cellO (.int .i64 at_)) :: L)) trivial ⟨rfl, rfl, rfl, rfl, trivial⟩).trans (Le.ren 13 2006 rfl), rfl, trivial, ⟨rfl, rfl, rfl, rfl, trivial⟩, rfl⟩
theorem flush1_fn {s2 s : Nat} {m : StM} {L : List (Nat × Ob)} {M : SPool} (hL : pget L s2 = some (cellO (.adr (some s)))) (hM : sget M s = some m) :
    Fn Try.prog 81 [vAd s2] [(1005, .obj (.pool L)), (1003, .obj (.pool (poolS M)))] [] (vI 0) [(1005, .obj (.pool L)), (1003, .obj (.pool (poolS (sset M s m.flush))))] := by
  refine Fn.of tblOK [] _ _ _ _ _ Try.func81 rfl rfl (by kernel_rfl) (by kernel_rfl) rfl (drawOK tblOK) rfl ?_
  refine ⟨_, _, fun N => opOK_loadAdr (q := 1005) rfl Try.underlying71 rfl rfl rfl hL N, rfl, ?_⟩
  refine ⟨_, _, _, _, poolFn (sflush_fn m) hM rfl rfl, ⟨rfl, trivial⟩, rfl, ?_⟩
  exact ⟨_, _, _, Le.refl _ _, rfl, rfl, ⟨rfl, rfl, trivial⟩, rfl⟩
theorem write1_fn {s2 s b4 b5 : Nat} {at_ : Int} {x : List UInt8} {m : StM} {L : List (Nat × Ob)} {M : SPool} (h2 : pget L s2 = some (cellO (.adr (some s)))) (h4 : pget L b4 = some (cellO (.int .i64 at_))) (h5 : pget L b5 = some (cellO (.lst .u8 x)))
    (hM : sget M s = some m) (ho : StOK m) (hx : x.length ≤ 1073741824) (hl : m.loose.length ≤ 1073741824) :
    Fn Try.prog 84 [vAd s2, vAd b4, vAd b5] [(1005, .obj (.pool L)), (1003, .obj (.pool (poolS M)))] [] (vI (m.write at_ x).2) [(1005, .obj (.pool L)), (1003, .obj (.pool (poolS (sset M s (m.write at_ x).1))))] := by
  refine Fn.of tblOK [] _ _ _ _ _ Try.func84 rfl rfl (by kernel_rfl) (by kernel_rfl) rfl (drawOK tblOK) rfl ?_
  refine ⟨_, _, fun N => opOK_loadAdr (q := 1005) rfl Try.underlying71 rfl rfl rfl h2 N, rfl, ?_⟩
  refine ⟨_, _, fun N => opOK_loadAdr (q := 1005) rfl Try.underlying3 rfl rfl rfl h4 N, rfl, ?_⟩
  refine ⟨_, _, fun N => opOK_loadAdr (q := 1005) rfl Try.underlying31 rfl rfl rfl h5 N, rfl, ?_⟩
  refine ⟨_, _, _, _, poolFn (swrite_fn m at_ x hx ho.n0 ho.n1 (ho.seen.len ho.n1) ho.seen.wf hl) hM rfl rfl, ⟨rfl, trivial⟩, rfl, ?_⟩
  exact ⟨_, _, _, Le.refl _ _, rfl, rfl, ⟨rfl, rfl, trivial⟩, rfl⟩
end Go.Proofs.Ythghcdddambaeaa
