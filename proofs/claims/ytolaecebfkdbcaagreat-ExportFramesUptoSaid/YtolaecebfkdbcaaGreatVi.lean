/-
  A contract by way of another one: what holds at the call is turned, the other function's contract used, and what it leaves turned back.
-/
import Derived.Test.YtolaecebfkdbcaaGreatCd
import Derived.Test.YtolaecebfkdbcaaGreatGx
set_option linter.unusedVariables false
set_option linter.unusedSimpArgs false
namespace Go.Proofs.YtolaecebfkdbcaaGreat
open Go.RowKit
theorem Fn.via {P : Program} {f : FuncId} {args : List SV} {Bi : BL} {nw : List Nat} {res : SV} {Bo : BL} {X : Type} {args' : X → List SV} {B1 : X → BL} {Bi' : X → BL} {nw' : X → List Nat} {res' : X → SV} {Bo' : X → BL} (hcall : callable P f = true) (n : Nat) (hn : args.length = n)
    (hin : LeX (keysB Bi) (argsK 0 args) Bi (fun x => argsK 0 (args' x)) B1) (h : ∀ x, Fn P f (args' x) (Bi' x) (nw' x) (res' x) (Bo' x)) (hsub : ∀ x, subB (B1 x) (Bi' x)) (hfr : ∀ x, (allFresh (keysB Bi) (argsK 0 (args' x)) (B1 x) (nw' x) && outOK (Bi' x) (nw' x) (Bo' x)) = true) (hlen : ∀ x, (args' x).length = n)
    (hout : ∀ x, ∃ (r : SV) (B2 : BL), Le (keysB Bi) ((n, res' x) :: argsK 0 (args' x)) (applyB (effB (Bi' x) (Bo' x)) (B1 x)) [(n, r)] B2 ∧ leV r res ∧ subB B2 Bo ∧ (res.among (keysB Bi ++ nw) && amongB (keysB Bi ++ nw) Bo && (keysB Bo).all (fun c => (keysB Bi ++ nw).contains c)) = true) : Fn P f args Bi nw res Bo := by
  refine ⟨hcall, fun ρ F I w vals hI hH hF hdj hvl hden => ?_⟩
  let C : Ctx := ⟨w, I, fun b => ∃ c ch, lookB Bi c = some ch ∧ F c b, ρ, []⟩
  let a : Act := { tmps := (vals ++ [undef]).toArray, defers := [] }
  have hImm : Ext I w (Imm C Bi F w) w := fun b hb => ⟨⟨hI b hb, .inl hb, fun c ch hc hFb => (hF c ch hc b hFb).2 hb⟩, rfl⟩
  have hM0 : Mem (keysB Bi) C Bi ρ F w := ⟨Fr.refl _ _, fun c ch hc => Holds.stable hImm (fun _ _ => rfl) (Nat.le_refl _) ch (fun _ _ => rfl) (hH c ch hc), fun c ch hc b hb => ⟨(hF c ch hc b hb).1, .inl ⟨c, ch, hc, hb⟩⟩, hdj, fun c _ => rfl, List.nodup_nil, fun b hb => hb.elim (hI b) fun ⟨c, ch, hc, hF'⟩ => (hF c ch hc b hF').1, fun D hD => by cases hD⟩
  have hts : ∀ (i : Nat) (hi : i < vals.length), a.tmps.getD i undef = vals[i] := fun i hi => by
    show (vals ++ [undef]).toArray.getD i undef = _
    rw [Array.getD_eq_getD_getElem?, List.getElem?_toArray, List.getElem?_append_left hi, List.getElem?_eq_getElem hi]
    rfl
  have hSat : Sat (n + 1) (keysB Bi) C (argsK 0 args) Bi a w := by
    refine ⟨by show (vals ++ [undef]).toArray.size = n + 1; simp [hvl, hn], rfl, ρ, F, hM0, fun s => ?_⟩
    rw [look_argsK]
    simp only [Nat.zero_le, if_true, Nat.sub_zero]
    cases hs : args[s]? with
    | none => trivial
    | some v =>
      have hlt : s < vals.length := by rw [hvl]; exact (List.getElem?_eq_some_iff.1 hs).1
      simp only [Option.getD_some]
      have hx : vals[s]? = some vals[s] := List.getElem?_eq_getElem hlt
      have := DenV.mono hImm v _ (fun _ _ => rfl) (hden s v _ hs hx)
      rw [hts s hlt]
      exact this
  obtain ⟨x, hn1, hd1, ρ1, F1, hM, hS⟩ := hin (n + 1) C a w hSat
  have hB1 : ∀ {c ch}, lookB (Bi' x) c = some ch → lookB (B1 x) c = some ch := fun {c ch} hc => subB_get (hsub x) hc
  have hfr := hfr x
  rw [Bool.and_eq_true] at hfr
  have hc := (h x).2 ρ1 F1 (Imm C (B1 x) F1 w) w vals (fun b hb => hb.1) (fun c ch hc => hM.holds c ch (hB1 hc)) (fun c ch hc b hb => ⟨(hM.own c ch (hB1 hc) b hb).1, fun hI => hI.2.2 c ch (hB1 hc) hb⟩)
    (fun c c' ch ch' b h1 h2 => hM.disj c c' ch ch' b (hB1 h1) (hB1 h2)) (by rw [hvl, hn, hlen x]) (fun i v y hv hy => by
      have hi : i < vals.length := (List.getElem?_eq_some_iff.1 hy).1
      have h1 := hS i
      rw [look_argsK] at h1
      simp only [Nat.zero_le, if_true, Nat.sub_zero, hv, Option.getD_some] at h1
      rw [hts i hi] at h1
      rw [List.getElem?_eq_getElem hi] at hy
      injection hy with hy
      rw [← hy]
      exact h1)
  refine hc.mono ?_
  rintro e w' ⟨y, ρ2, F2, rfl, q1, q2, I', q3, q4, q5, q6, q7, q8⟩
  have hback := Sat.back (dst := some n) (hsub x) hfr.1 hfr.2 hn1 hd1 hM hS (fun d hd => by injection hd with hd; omega) q1 q2 q4 q5 q6 q7 q8
  obtain ⟨r, B2, hle, hrr, hsb, ham⟩ := hout x
  obtain ⟨hn3, hd3, ρ', F', hM', hS'⟩ := hle _ _ _ _ hback
  simp only [Bool.and_eq_true] at ham
  let ρ3 : Nat → Pl := fun c => if c ∈ nw then ρ' c else ρ c
  have hρ3 : ∀ c, c ∈ keysB Bi ++ nw → ρ3 c = ρ' c := fun c hc => by
    show (if c ∈ nw then ρ' c else ρ c) = ρ' c
    split
    · rfl
    · rename_i hn
      rcases List.mem_append.1 hc with h | h
      · exact (hM'.keep c h).symm
      · exact absurd h hn
  have hxd : DenV ρ' (Imm C B2 F' w') w' res y := by
    have h1 := hS' n
    rw [look_cons, if_pos rfl] at h1
    have h2 : (a.put (some n) y).tmps.getD n undef = y := at_put_same (by show n < (vals ++ [undef]).toArray.size; simp [hvl, hn])
    rw [h2] at h1
    exact leV_den hrr h1
  refine ⟨y, ρ3, F', rfl, hM'.fr, fun c hc => if_neg hc, Imm C B2 F' w', ?_, fun b hb => ⟨hb.1, ?_⟩, ?_, ?_, ?_, ?_⟩
  · intro b hb
    have hnF : ¬ C.F0 b := fun ⟨c, ch, h1, h2⟩ => (hF c ch h1 b h2).2 hb
    refine ⟨⟨Nat.lt_of_lt_of_le (hI b hb) hM'.fr.size, .inl hb, fun c ch hc hFb => ?_⟩, hM'.fr.block b (hI b hb) hnF⟩
    rcases (hM'.own c ch hc b hFb).2 with h | h
    · exact hnF h
    · have := hI b hb; exact absurd h.1 (Nat.not_le.2 this)
  · rcases hb.2.1 with h | h | h
    · exact .inl h
    · exact .inr (.inl h)
    · exact .inr (.inr h.1)
  · intro c ch hc
    have hk : c ∈ keysB Bi ++ nw := by
      have := List.all_eq_true.1 ham.2 c (keysB_mem.2 ⟨ch, hc⟩)
      simpa only [List.contains_iff_mem] using this
    rw [hρ3 c hk]
    exact Holds.stable (Ext.refl _ _) (fun _ _ => rfl) (Nat.le_refl _) ch (fun d hd => hρ3 d (Ch.among_has (amongB_get ham.1.2 hc) hd)) (hM'.holds c ch (subB_get hsb hc))
  · intro c ch hc b hb
    have hc' := subB_get hsb hc
    exact ⟨(hM'.own c ch hc' b hb).1, fun hi => hi.2.2 c ch hc' hb, (hM'.own c ch hc' b hb).2.imp id fun x => x.1⟩
  · exact fun c c' ch ch' b h1 h2 => hM'.disj c c' ch ch' b (subB_get hsb h1) (subB_get hsb h2)
  · exact DenV.mono (Ext.refl _ _) res y (fun c hc => hρ3 c (SV.among_has ham.1.1 hc)) hxd
end Go.Proofs.YtolaecebfkdbcaaGreat
