/-
  Words that several chapters share.
-/
import Derived.Test.YtolaecebfkdbcaaGreatTbl
import Derived.Test.YtolaecebfkdbcaaGreatGrp
set_option linter.unusedVariables false
set_option linter.unusedSimpArgs false
namespace Go.Proofs.YtolaecebfkdbcaaGreat
open Go.RowKit
@[reducible] def uI : U := .int .i64
@[reducible] def vNilP : SC := .one (.raw (.pointer none))
@[reducible] def vErr (n : Int) : SC := .one (.d (.int .i64 n))
@[reducible] def vU : SV := .tup []
@[reducible] def vAd (b : Nat) : SV := .c (.one (.d (.adr (some b))))
@[reducible] def vAdr (x : Option Nat) : SC := .one (.d (.adr x))
theorem lgAt {α : Type} {L : List α} {n : Nat} (h : n < L.length) : lget L n = some L[n] := List.getElem?_eq_getElem h
theorem lgetAt {α : Type} {L : List α} {n : Nat} (h : n < L.length) : lget L n = some L[n] := List.getElem?_eq_getElem h
/-- A contract on blocks laid open, as one on the object that they are (nothing is made known). -/
theorem Fn.close {P : Program} {f : FuncId} {c : Nat} {args : List SV} {Bl Bi : BL} {nw nw' : List Nat} {res : SV} {Bl' Bo : BL} {o o' : Ob} (inn : List Nat)
    (h : Fn P f args (Bl ++ Bi) nw res (Bl' ++ Bo)) (hin : ∀ I F w p, o.R I F w p → grpR c Bl I F w p) (hout : ∀ I F w p, grpR c Bl' I F w p → o'.R I F w p)
    (h1 : closeIn c inn args Bl Bi nw nw' = true) (h2 : closeOut c (hidOf inn nw nw') res Bl' Bo = true) :
    Fn P f args ((c, .obj o) :: Bi) nw' res ((c, .obj o') :: Bo) :=
  (FnX.close (Bl := Bl) (Bl' := fun _ : Unit => Bl') (Bo := fun _ => Bo) (o := o) (o' := fun _ => o') inn h.x hin (fun _ => hout) h1 (fun _ => h2)).fn
/-- An object that is one of several, whichever. -/
theorem Fn.openEx {P : Program} {f : FuncId} {args : List SV} {c : Nat} {Bi : BL} {nw : List Nat} {res : SV} {Bo : BL} {o : Ob} {Y : Type} {oy : Y → Ob} (hc : callable P f = true) (ho : ∀ I F w p, o.R I F w p → ∃ y, (oy y).R I F w p)
    (h : ∀ y, Fn P f args ((c, .obj (oy y)) :: Bi) nw res Bo) : Fn P f args ((c, .obj o) :: Bi) nw res Bo := by
  refine ⟨hc, fun ρ F I w vals a1 a2 a3 a4 a5 a6 => ?_⟩
  have hl : lookB ((c, Ch.obj o) :: Bi) c = some (.obj o) := by rw [lookB_cons, if_pos rfl]
  obtain ⟨y, hy⟩ := ho _ _ _ _ (a2 c _ hl)
  have key : ∀ d ch, lookB ((c, Ch.obj (oy y)) :: Bi) d = some ch → (d = c ∧ ch = .obj (oy y)) ∨ lookB ((c, Ch.obj o) :: Bi) d = some ch := fun d ch hd => by
    rw [lookB_cons] at hd
    split at hd
    · rename_i e; injection hd with hd; exact .inl ⟨e.symm, hd.symm⟩
    · rename_i e; exact .inr (by rw [lookB_cons, if_neg e]; exact hd)
  have key2 : ∀ d ch, lookB ((c, Ch.obj (oy y)) :: Bi) d = some ch → ∃ ch0, lookB ((c, Ch.obj o) :: Bi) d = some ch0 := fun d ch hd => by
    rcases key d ch hd with ⟨e, _⟩ | h
    · rw [e]
      exact ⟨_, hl⟩
    · exact ⟨_, h⟩
  have key3 : ∀ d ch, lookB ((c, Ch.obj o) :: Bi) d = some ch → ∃ ch0, lookB ((c, Ch.obj (oy y)) :: Bi) d = some ch0 := fun d ch hd => by
    rw [lookB_cons] at hd ⊢
    split at hd
    · rename_i e; exact ⟨_, by rw [if_pos e]⟩
    · rename_i e; exact ⟨ch, by rw [if_neg e]; exact hd⟩
  have hF : ∀ b, (∃ d ch, lookB ((c, Ch.obj (oy y)) :: Bi) d = some ch ∧ F d b) ↔ ∃ d ch, lookB ((c, Ch.obj o) :: Bi) d = some ch ∧ F d b := fun b =>
    ⟨fun ⟨d, ch, h1, h2⟩ => let ⟨ch0, h⟩ := key2 d ch h1; ⟨d, ch0, h, h2⟩, fun ⟨d, ch, h1, h2⟩ => let ⟨ch0, h⟩ := key3 d ch h1; ⟨d, ch0, h, h2⟩⟩
  refine ((h y).2 ρ F I w vals a1 (fun d ch hd => ?_) (fun d ch hd b hb => ?_) (fun d d' ch ch' b h1 h2 => ?_) a5 a6).mono ?_
  · rcases key d ch hd with ⟨rfl, rfl⟩ | h
    · exact hy
    · exact a2 d ch h
  · obtain ⟨ch0, h⟩ := key2 d ch hd
    exact a3 d ch0 h b hb
  · obtain ⟨c0, g1⟩ := key2 d ch h1
    obtain ⟨c1, g2⟩ := key2 d' ch' h2
    exact a4 d d' c0 c1 b g1 g2
  · rintro e w' ⟨x, ρ', F', r1, r2, r3, I', r4, r5, r6, r7, r8, r9⟩
    refine ⟨x, ρ', F', r1, r2.mono fun b _ hb => (hF b).1 hb, r3, I', r4, fun b hb => ⟨(r5 b hb).1, (r5 b hb).2.imp id (Or.imp (hF b).1 id)⟩, r6, fun d ch hd b hb => ?_, r8, r9⟩
    obtain ⟨g1, g2, g3⟩ := r7 d ch hd b hb
    exact ⟨g1, g2, g3.imp (hF b).1 id⟩
end Go.Proofs.YtolaecebfkdbcaaGreat
