/-
  A disk with its image as one object; put into a map; the map laid open as a chain.
-/
import Derived.Test.YtbcngglcaeehbaaMo
import Derived.Test.YtbcngglcaeehbaaCo
import Derived.Test.YtbcngglcaeehbaaDp
import Derived.Test.YtbcngglcaeehbaaDa
import Derived.Test.YtbcngglcaeehbaaIx
import Derived.Test.YtbcngglcaeehbaaGx
import Derived.Test.YtbcngglcaeehbaaPp
set_option linter.unusedVariables false
set_option linter.unusedSimpArgs false
set_option maxRecDepth 10000
namespace Go.Proofs.Ytbcngglcaeehbaa
open Go.RowKit Go.Proofs
def pairR (bk : List UInt8) (o : Ob) (I F : Nat → Prop) (w : World) (p : Pl) : Prop :=
  ∃ (F1 F2 : Nat → Prop) (q : Pl), (∀ x, F x ↔ F1 x ∨ F2 x) ∧ (∀ x, F1 x → ¬ F2 x) ∧ (dskO q.blk bk).R I F1 w p ∧ o.R I F2 w q
def pairO (bk : List UInt8) (o : Ob) : Ob where
  R := pairR bk o
  stable := fun I F w I' w' p ⟨F1, F2, q, h1, h2, h3, h4⟩ he hF hz => ⟨F1, F2, q, h1, h2, (dskO q.blk bk).stable _ _ _ _ _ _ h3 he (fun b hb => hF b ((h1 b).2 (.inl hb))) hz, o.stable _ _ _ _ _ _ h4 he (fun b hb => hF b ((h1 b).2 (.inr hb))) hz⟩
section
variable {P : Program} {ids : List Nat} {K : KL} {B : BL}
theorem opOK_putPair {o : Oper} {T kt et : TypeId} {x i v : Operand} {c d e : Nat} (ho : o.op = .mapUpdate T x i v) (hT : P.underlying T = some (.map kt et)) {dk : TypeDesc} (hkt : P.underlying kt = some dk) {ku : U} (hd : keyD ku dk = true)
    (hx : opv K x = .c (.one (.mp c))) {key : El ku} (hk : keyS ku (opv K i) = some key) (hv : opv K v = .c (.one (.ptr d 0))) {l : List (El ku × Ob)} {bk : List UInt8} {ob : Ob} (hc : lookB B c = some (.obj (.mapO ku l))) (hd2 : lookB B d = some (.cells [.ptr e 0, .d (.str bk)])) (he2 : lookB B e = some (.obj ob)) (hne : c ≠ d) (hne2 : c ≠ e) (hne3 : d ≠ e)
    (hnew : ∀ p ∈ l, eqKey ku key p.1 = false) (N : Nat) : OpOK P N ids o K B .undef ⟨[c, d, e], [], [(d, none), (e, none), (c, some (.obj (.mapO ku (l ++ [(key, pairO bk ob)]))))]⟩ := by
  have m1 : x ∈ o.op.operands := by rw [ho]; simp [Op.operands]
  have m2 : i ∈ o.op.operands := by rw [ho]; simp [Op.operands]
  have m3 : v ∈ o.op.operands := by rw [ho]; simp [Op.operands]
  rintro K' B' g1 g2 - C a w ⟨hn, hdf, ρ, F, hM, hS⟩ hlt Kn Q hK
  have hc' := (g2 c (by simp)).trans hc
  have hd' := (g2 d (by simp)).trans hd2
  have he' := (g2 e (by simp)).trans he2
  obtain ⟨ads, F2, h1, h2, h3, ⟨ents, clock, h4, h5, h6⟩, h7⟩ : mapOR ku l (Imm C B' F w) (F c) w (ρ c) := hM.holds c _ hc'
  have hCd := hM.holds d _ hd'
  have hOe : ob.R (Imm C B' F w) (F e) w (ρ e) := hM.holds e _ he'
  have hde : ∀ y, F d y → ¬ F e y := fun y hy hy' => hM.disj d e _ _ y hd' he' hne3 hy hy'
  have hO : (pairO bk ob).R (Imm C B' F w) (fun y => F d y ∨ F e y) w (ρ d) := by
    refine ⟨F d, F e, ρ e, fun x => Iff.rfl, hde, ?_, hOe⟩
    refine Ob.ch_of (ρ := ρ) _ ?_
    obtain ⟨q1, vs, T, q2, v1, r1, e1, s1, v2, r2, e2, s2, e3⟩ := hCd
    exact ⟨q1, vs, T, q2, v1, r1, e1, s1, v2, r2, e2, s2, e3⟩
  have e1 := hS.mp ((g1 x m1).trans hx)
  have e2 : a.eval i = keyV ku key := keyS_den hk (hS.ev (g1 i m2))
  have e3 : a.eval v = .pointer (some ⟨(ρ d).blk, 0, none⟩) := hS.ev ((g1 v m3).trans hv)
  have e4 : DenE (Imm C B' F w) w .adr (adrE (ρ d).blk) (a.eval v) := by
    rw [e3]
    exact ⟨rfl, ⟨fun _ => rfl, fun h => by cases h⟩, rfl⟩
  obtain ⟨es', clock', hr, hm', hB'⟩ := update_run (P := P) hT hkt hd h4 h5 h6 key e4
  have hdj : ∀ y, (F d y ∨ F e y) → ¬ F c y := fun y hy hy' => hy.elim (fun hy => hM.disj d c _ _ y hd' hc' (Ne.symm hne) hy hy') (fun hy => hM.disj e c _ _ y he' hc' (Ne.symm hne2) hy hy')
  have hlt2 := (Array.getElem?_eq_some_iff.1 h4).1
  have hkeys : ∀ p ∈ zipA l ads, eqKey ku key p.1 = false := fun p hp => by
    have : p.1 ∈ (zipA l ads).map (·.1) := List.mem_map_of_mem hp
    rw [zipA_keys h1] at this
    obtain ⟨q, hq, e⟩ := List.mem_map.1 this
    rw [← e]
    exact hnew q hq
  rw [mput_newO _ _ hkeys] at hm'
  have hfrB : ∀ y, y ≠ (ρ c).blk → ({ w with heap := w.heap.setIfInBounds (ρ c).blk (.map (List.toArray es') clock') } : World).heap[y]? = w.heap[y]? := fun y hy => Array.getElem?_setIfInBounds_ne (Ne.symm hy)
  unfold Oper.wp
  have hx : (execOp a.eval o).run P w = .ok .skip { w with heap := w.heap.setIfInBounds (ρ c).blk (.map (List.toArray es') clock') } := by simp only [execOp, ho, Sem.run_bind, e1, e2, hr, Result.andThen_ok, Sem.run_pure]
  rw [hx, Oper.upon_skip]
  obtain ⟨hM', hE⟩ := hM.step (B' := (c, .obj (.mapO ku (l ++ [(key, pairO bk ob)]))) :: dropB (dropB B' d) e) (ρ' := ρ) (F' := upd F c (fun y => F c y ∨ (F d y ∨ F e y))) (w' := { w with heap := w.heap.setIfInBounds (ρ c).blk (.map (List.toArray es') clock') }) (fun j => j = d ∨ j = e ∨ j = c) (fun _ => False)
    ((map_fr (S := F c) ((h2 _).2 (.inl rfl))).mono fun y _ hy => ⟨c, _, hc', .inr (.inr rfl), hy⟩)
    (fun j ch hj hm => by
      rw [lookB_cons, if_neg (fun e => hm (.inr (.inr e.symm))), lookB_dropB, if_neg (fun e => hm (.inr (.inl e.symm))), lookB_dropB, if_neg (fun e => hm (.inl e.symm))] at hj
      exact hj)
    (fun _ _ => rfl) (fun j hm => upd_other _ _ (fun e => hm (.inr (.inr e)))) (fun _ _ h => h) (fun _ h => h.elim) (fun _ _ _ _ _ _ h => h)
    (fun j ch hj hm hE => by
      rw [lookB_cons] at hj
      split at hj
      · rename_i e
        subst e
        injection hj with hj
        subst hj
        rw [upd_same]
        have hdc : ∀ y, (F d y ∨ F e y) → y ≠ (ρ c).blk := fun y hy e => hdj y hy (e ▸ (h2 _).2 (.inl rfl))
        refine ⟨ads ++ [(ρ d).blk], fun y => (F d y ∨ F e y) ∨ F2 y, by simp [h1], fun y => ?_, ?_, ⟨es', clock', by simp [hlt2], ?_, hB'⟩, ?_⟩
        · show (F c y ∨ (F d y ∨ F e y)) ↔ (y = (ρ c).blk ∨ ((F d y ∨ F e y) ∨ F2 y))
          rw [h2]
          constructor
          · intro h
            rcases h with (h | h) | h
            · exact .inl h
            · exact .inr (.inr h)
            · exact .inr (.inl h)
          · intro h
            rcases h with h | h | h
            · exact .inl (.inl h)
            · exact .inr h
            · exact .inl (.inr h)
        · intro h
          rcases h with h | h
          · exact hdc _ h rfl
          · exact h3 h
        · rw [zipA_snoc key (pairO bk ob) _ h1]
          exact hm'.mono hE
        · rw [zipO_snoc key (pairO bk ob) _ h1]
          refine poolR.snoc ((pairO bk ob).stable _ _ _ _ _ _ hO hE (fun y hy => hfrB y (hdc y hy)) (by simp)) (h7.stable hE (by simp) fun y hy => hfrB y fun e => h3 (e ▸ hy)) fun y hy h => hdj y hy ((h2 y).2 (.inr h))
      · rename_i e0
        rcases hm with rfl | rfl | rfl
        · rw [lookB_dropB] at hj
          split at hj
          · cases hj
          · rw [lookB_dropB, if_pos rfl] at hj; cases hj
        · rw [lookB_dropB, if_pos rfl] at hj; cases hj
        · exact absurd rfl e0)
    (fun j ch hj hm y hy => by
      rw [lookB_cons] at hj
      split at hj
      · rename_i e0
        subst e0
        rw [upd_same] at hy
        rcases hy with hy | hy | hy
        · exact ⟨by simpa using (hM.own c _ hc' y hy).1, .inl ⟨c, _, hc', .inr (.inr rfl), hy⟩⟩
        · exact ⟨by simpa using (hM.own d _ hd' y hy).1, .inl ⟨d, _, hd', .inl rfl, hy⟩⟩
        · exact ⟨by simpa using (hM.own e _ he' y hy).1, .inl ⟨e, _, he', .inr (.inl rfl), hy⟩⟩
      · rename_i e0
        rcases hm with rfl | rfl | rfl
        · rw [lookB_dropB] at hj
          split at hj
          · cases hj
          · rw [lookB_dropB, if_pos rfl] at hj; cases hj
        · rw [lookB_dropB, if_pos rfl] at hj; cases hj
        · exact absurd rfl e0)
    (fun j j' ch ch' y hj hj' hm hm' hnej => by
      have key : ∀ j ch, lookB ((c, Ch.obj (.mapO ku (l ++ [(key, pairO bk ob)]))) :: dropB (dropB B' d) e) j = some ch → (j = d ∨ j = e ∨ j = c) → j = c := fun j ch hj hm => by
        rcases hm with rfl | rfl | rfl
        · rw [lookB_cons, if_neg hne, lookB_dropB] at hj
          split at hj
          · cases hj
          · rw [lookB_dropB, if_pos rfl] at hj; cases hj
        · rw [lookB_cons, if_neg hne2, lookB_dropB, if_pos rfl] at hj; cases hj
        · rfl
      exact absurd ((key j ch hj hm).trans (key j' ch' hj' hm').symm) hnej)
  exact hK _ _ ⟨put_size.trans hn, put_defers.trans hdf, ρ, _, hM', (hS.mono hE fun _ _ _ => rfl).putO (fun e he => by rw [hn]; exact hlt e he) rfl⟩
end
/-! ### laid open -/
def cpl (l : List Dsk) : List (El .str × Ob) := l.map fun d => ((d.nm : El .str), pairO d.back (imO d.im))
def mkD : List Dsk → List Nat → List Nat → List Dsk
  | d :: l, a :: ads, m :: ms => ⟨d.nm, d.back, a, m, d.im, none⟩ :: mkD l ads ms
  | _, _, _ => []
theorem mkD_E : ∀ {l : List Dsk} {ads ms : List Nat}, ads.length = l.length → ms.length = l.length → zipA (cpl l) ads = chE (mkD l ads ms)
  | [], [], [], _, _ => rfl
  | d :: l, a :: ads, m :: ms, h1, h2 => by
    show ((d.nm : El .str), adrE a) :: zipA (cpl l) ads = _
    rw [mkD_E (ads := ads) (ms := ms) (by simpa using h1) (by simpa using h2)]
    rfl
theorem pairs_split {I : Nat → Prop} {w : World} : ∀ {l : List Dsk} {ads : List Nat} {F : Nat → Prop}, ads.length = l.length → poolR I w (zipO (cpl l) ads) F →
    ∃ (ms : List Nat) (F1 F2 : Nat → Prop), ms.length = l.length ∧ (∀ b, F b ↔ F1 b ∨ F2 b) ∧ (∀ b, F1 b → ¬ F2 b) ∧ poolR I w (chD (mkD l ads ms)) F1 ∧ poolR I w (chM (mkD l ads ms)) F2
  | [], [], F, _, h => ⟨[], fun _ => False, fun _ => False, rfl, fun b => by simp [h b], fun _ h => h.elim, fun _ h => h, fun _ h => h⟩
  | d :: l, a :: ads, F, hl, ⟨G1, G2, p, h1, h2, h3, ⟨P1, P2, q, k1, k2, k3, k4⟩, h5⟩ => by
    obtain ⟨ms, F1, F2, e0, e1, e2, e3, e4⟩ := pairs_split (l := l) (ads := ads) (by simpa using hl) h5
    refine ⟨q.blk :: ms, fun b => P1 b ∨ F1 b, fun b => P2 b ∨ F2 b, by simp [e0], fun b => ?_, fun b hb hb' => ?_, ⟨P1, F1, p, fun b => Iff.rfl, fun b hb hb' => ?_, h3, k3, e3⟩, ⟨P2, F2, q, fun b => Iff.rfl, fun b hb hb' => ?_, rfl, k4, e4⟩⟩
    · rw [h1, k1, e1]
      constructor
      · rintro ((h | h) | h | h)
        · exact .inl (.inl h)
        · exact .inr (.inl h)
        · exact .inl (.inr h)
        · exact .inr (.inr h)
      · rintro ((h | h) | h | h)
        · exact .inl (.inl h)
        · exact .inr (.inl h)
        · exact .inl (.inr h)
        · exact .inr (.inr h)
    · rcases hb with hb | hb <;> rcases hb' with hb' | hb'
      · exact k2 b hb hb'
      · exact h2 b ((k1 b).2 (.inl hb)) ((e1 b).2 (.inr hb'))
      · exact h2 b ((k1 b).2 (.inr hb')) ((e1 b).2 (.inl hb))
      · exact e2 b hb hb'
    · exact h2 b ((k1 b).2 (.inl hb)) ((e1 b).2 (.inl hb'))
    · exact h2 b ((k1 b).2 (.inr hb)) ((e1 b).2 (.inr hb'))
section
variable {ids : List Nat} {K : KL} {B : BL}
theorem LeX.splitPairs (q q2 : Nat) {l : List Dsk} {ads : List Nat} (hl : ads.length = l.length) (hc : lookB B q = some (.obj (.pool (zipO (cpl l) ads)))) (hd : freshB ids K B q2 = true) : LeX ids K B (X := { ms : List Nat // ms.length = l.length }) (fun _ => K) (fun ms => (q2, .obj (.pool (chM (mkD l ads ms.1)))) :: (q, .obj (.pool (chD (mkD l ads ms.1)))) :: B) := by
  rintro N C a w ⟨hn, hdf, ρ, F, hM, hS⟩
  have hP : poolR (Imm C B F w) w (zipO (cpl l) ads) (F q) := hM.holds q _ hc
  obtain ⟨ms, F1, F2, e0, e1, e2, e3, e4⟩ := pairs_split hl hP
  obtain ⟨f1, f2, f3, f4⟩ := fresh_of hd
  obtain ⟨hM', hE⟩ := hM.split (K := K) (ch1 := .obj (.pool (chD (mkD l ads ms)))) (ch2 := .obj (.pool (chM (mkD l ads ms)))) hc hd (ρ q) F1 F2 (fun b hb => (e1 b).2 (.inl hb)) (fun b hb => (e1 b).2 (.inr hb)) e2
    (fun I hI => e3.stable hI (Nat.le_refl _) fun _ _ => rfl) (fun I hI => e4.stable hI (Nat.le_refl _) fun _ _ => rfl)
  exact ⟨⟨ms, e0⟩, hn, hdf, _, _, hM', hS.mono hE fun s e he => upd_other _ _ (fun e' => by subst e'; rw [f1 s] at he; cases he)⟩
end
/-! Chains: Copy. -/
/-! ### two chains that tell the same -/
@[reducible] def coreD (d : Dsk) : List UInt8 × List UInt8 × ImS := (d.nm, d.back, d.im)
def Eqv (L L' : List Dsk) : Prop := ∀ n, (dk L' n).map coreD = (dk L n).map coreD
section
variable {bits room : Nat} {L L' : List Dsk}
theorem Eqv.symm (h : Eqv L L') : Eqv L' L := fun n => (h n).symm
theorem Eqv.get (h : Eqv L L') {n : List UInt8} {d : Dsk} (hd : dk L n = some d) : ∃ d', dk L' n = some d' ∧ d'.nm = d.nm ∧ d'.back = d.back ∧ d'.im = d.im := by
  have e := h n
  rw [hd] at e
  cases hd' : dk L' n with
  | none => rw [hd'] at e; cases e
  | some d' =>
    rw [hd'] at e
    have e : coreD d' = coreD d := by injection e
    exact ⟨d', rfl, congrArg (·.1) e, congrArg (·.2.1) e, congrArg (·.2.2) e⟩
theorem Eqv.no (h : Eqv L L') {n : List UInt8} (hd : dk L n = none) : dk L' n = none := by
  have e := h n
  rw [hd] at e
  cases hd' : dk L' n with
  | none => rfl
  | some d' => rw [hd'] at e; cases e
theorem Eqv.dn (h : Eqv L L') {n : List UInt8} {k : Nat} (hd : Dn L n k) : Dn L' n k := by
  induction hd with
  | gone h0 => exact .gone (h.no h0)
  | base h0 h1 => obtain ⟨d', e1, _, e2, _⟩ := h.get h0; exact .base e1 (by rw [e2]; exact h1)
  | step h0 h1 h2 ih => obtain ⟨d', e1, _, e2, _⟩ := h.get h0; exact .step e1 (by rw [e2]; exact h1) (by rw [e2]; exact ih)
theorem Eqv.bl (h : Eqv L L') : ∀ (k : Nat) (n : List UInt8), Go.Proofs.Ytbcngglcaeehbaa.bl L' k n = Go.Proofs.Ytbcngglcaeehbaa.bl L k n
  | 0, _ => rfl
  | k + 1, n => by
    show (match dk L' n with | none => [] | some d => d.back :: Go.Proofs.Ytbcngglcaeehbaa.bl L' k d.back) = match dk L n with | none => [] | some d => d.back :: Go.Proofs.Ytbcngglcaeehbaa.bl L k d.back
    cases hd : dk L n with
    | none => rw [h.no hd]
    | some d => obtain ⟨d', e1, _, e2, _⟩ := h.get hd; rw [e1]; simp only; rw [e2, h.bl k]
theorem Eqv.seen (h : Eqv L L') (k : Nat) : ∀ (ns : List (List UInt8)) (i : Nat), seenL bits L' k ns i = seenL bits L k ns i
  | [], _ => rfl
  | n :: ns, i => by
    have ih := h.seen k ns (i + 1)
    show (match dk L' n with | none => ([], 0) | some d => if k < d.im.t.length ∧ (d.im.t.getD k s0).1 ≠ 0 then (clus d.im k none, i + 1) else seenL bits L' k ns (i + 1)) = match dk L n with | none => ([], 0) | some d => if k < d.im.t.length ∧ (d.im.t.getD k s0).1 ≠ 0 then (clus d.im k none, i + 1) else seenL bits L k ns (i + 1)
    cases hd : dk L n with
    | none => rw [h.no hd]
    | some d => obtain ⟨d', e1, _, _, e2⟩ := h.get hd; rw [e1]; simp only; rw [e2, ih]
theorem Eqv.dpt (h : Eqv L L') (hC : CS bits room L) (n : List UInt8) : Go.Proofs.Ytbcngglcaeehbaa.dpt L' n = Go.Proofs.Ytbcngglcaeehbaa.dpt L n := by
  have hd := hC.dep n
  exact dpt_of (h.dn hd.1) (by omega)
theorem Eqv.cseen (h : Eqv L L') (hC : CS bits room L) (n : List UInt8) (k : Nat) : Go.Proofs.Ytbcngglcaeehbaa.cseen bits L' n (Go.Proofs.Ytbcngglcaeehbaa.dpt L' n) k = Go.Proofs.Ytbcngglcaeehbaa.cseen bits L n (Go.Proofs.Ytbcngglcaeehbaa.dpt L n) k := by
  rw [h.dpt hC]
  unfold Go.Proofs.Ytbcngglcaeehbaa.cseen
  rw [h.bl, h.seen]
theorem Eqv.rd (h : Eqv L L') (hC : CS bits room L) (n : List UInt8) (a l : Int) : rdC bits L' n a l = rdC bits L n a l := by
  unfold rdC
  cases hd : dk L n with
  | none => rw [h.no hd]
  | some d =>
    obtain ⟨d', e1, _, _, e2⟩ := h.get hd
    rw [e1]
    simp only
    rw [e2, crdK_all (fun c => h.cseen hC n c)]
theorem Eqv.all (h : Eqv L L') (hC : CS bits room L) (n : List UInt8) : allC bits L' n = allC bits L n := by
  unfold allC
  cases hd : dk L n with
  | none => rw [h.no hd]
  | some d =>
    obtain ⟨d', e1, _, _, e2⟩ := h.get hd
    rw [e1]
    simp only
    rw [e2, crdK_all (fun c => h.cseen hC n c)]
theorem core_nm : ∀ l : List Dsk, (l.map coreD).map (·.1) = l.map (·.nm) := fun l => by rw [List.map_map]; rfl
theorem eqv_of (hn : (L.map (·.nm)).Nodup) (hp : (L'.map coreD).Perm (L.map coreD)) : Eqv L L' := by
  have hn' : (L'.map (·.nm)).Nodup := by rw [← core_nm, (hp.map _).nodup_iff, core_nm]; exact hn
  intro n
  cases hd : dk L n with
  | some d =>
    obtain ⟨h1, h2⟩ := dk_get hd
    obtain ⟨d', h3, h4⟩ := List.mem_map.1 (hp.mem_iff.2 (List.mem_map_of_mem (f := coreD) h1))
    have e := dk_mem hn' h3
    rw [show d'.nm = n from (congrArg (·.1) h4).trans h2] at e
    rw [e]
    exact congrArg some h4
  | none =>
    cases hd' : dk L' n with
    | none => rfl
    | some d' =>
      obtain ⟨h1, h2⟩ := dk_get hd'
      obtain ⟨d, h3, h4⟩ := List.mem_map.1 (hp.mem_iff.1 (List.mem_map_of_mem (f := coreD) h1))
      have e := dk_mem hn h3
      rw [show d.nm = n from (congrArg (·.1) h4).trans h2, hd] at e
      cases e
theorem cs_copy (h : CS bits room L) (hp : (L'.map coreD).Perm (L.map coreD)) (h1 : (L'.map (·.ad)).Nodup) (h2 : (L'.map (·.am)).Nodup) (h3 : Unp L') : CS bits room L' := by
  have hE := eqv_of h.nms hp
  have hm : ∀ d', d' ∈ L' → ∃ d, d ∈ L ∧ d'.nm = d.nm ∧ d'.back = d.back ∧ d'.im = d.im := fun d' hd' => by
    obtain ⟨d, g1, g2⟩ := List.mem_map.1 (hp.mem_iff.1 (List.mem_map_of_mem (f := coreD) hd'))
    exact ⟨d, g1, (congrArg (·.1) g2).symm, (congrArg (·.2.1) g2).symm, (congrArg (·.2.2) g2).symm⟩
  have hlen : L'.length = L.length := by have := hp.length_eq; rwa [List.length_map, List.length_map] at this
  exact
    { nms := by rw [← core_nm, (hp.map _).nodup_iff, core_nm]; exact h.nms
      ads := h1
      ams := h2
      b3 := h.b3
      r512 := h.r512
      len := by rw [hlen]; exact h.len
      ims := fun d' hd' => by obtain ⟨d, g1, g2, g3, g4⟩ := hm d' hd'; rw [g4]; exact h.ims d g1
      kn := fun d' hd' hb => by
        obtain ⟨d, g1, g2, g3, g4⟩ := hm d' hd'
        rw [g3] at hb ⊢
        obtain ⟨e, he⟩ := h.kn d g1 hb
        obtain ⟨e', he', _⟩ := hE.get he
        exact ⟨e', he'⟩
      ne := fun d' hd' => by obtain ⟨d, g1, g2, g3, g4⟩ := hm d' hd'; rw [g2]; exact h.ne d g1
      dn := fun d' hd' => by
        obtain ⟨d, g1, g2, g3, g4⟩ := hm d' hd'
        obtain ⟨k, k1, k2⟩ := h.dn d g1
        exact ⟨k, k1, by rw [g2]; exact hE.dn k2⟩
      unp := h3
      nok := fun d' hd' => by obtain ⟨d, g1, g2, g3, g4⟩ := hm d' hd'; rw [g2]; exact h.nok d g1 }
theorem mkD_core : ∀ {l : List Dsk} {ads ms : List Nat}, ads.length = l.length → ms.length = l.length → (mkD l ads ms).map coreD = l.map coreD
  | [], [], [], _, _ => rfl
  | d :: l, a :: ads, m :: ms, h1, h2 => by
    show (d.nm, d.back, d.im) :: (mkD l ads ms).map coreD = _
    rw [mkD_core (l := l) (by simpa using h1) (by simpa using h2)]
    rfl
theorem mkD_unp : ∀ {l : List Dsk} {ads ms : List Nat}, Unp (mkD l ads ms)
  | d :: l, a :: ads, m :: ms => fun x hx => by
    rcases List.mem_cons.1 hx with rfl | hx
    · rfl
    · exact mkD_unp x hx
  | [], _, _ => fun x hx => by cases hx
  | _ :: _, [], _ => fun x hx => by cases hx
  | _ :: _, _ :: _, [] => fun x hx => by cases hx
end
theorem icopyO (s : ImS) (hO : ImOK s) : Fn Try.prog 24 [vP 1001] [(1001, .obj (imO s))] [2001] (vP 2001) [(1001, .obj (imO s)), (2001, .obj (imO s))] :=
  Fn.close [1002, 1003, 1004] (icopy_fn s hO) (fun _ _ _ _ h => h) (fun _ _ _ _ h => h) rfl rfl
theorem icopyP {L : List Dsk} {d : Dsk} (hO : ImOK d.im) (hp : d.pin = none) (hL : pget (chM L) d.am = some (imX d)) : Fn Try.prog 24 [vAd d.am] [(1004, .obj (.pool (chM L)))] [2001] (vP 2001) [(1004, .obj (.pool (chM L))), (2001, .obj (imO d.im))] := by
  rw [imX_none hp] at hL
  have := (FnX.pool (c := 1001) (q := 1004) (b := d.am) (args := []) (Bi := []) (nw := [2001]) (X := Unit) (res := fun _ => vP 2001) (Bo := fun _ => [(2001, .obj (imO d.im))]) (o := imO d.im) (o' := fun _ => imO d.im) (L := chM L) (icopyO d.im hO).x hL rfl ⟨rfl, rfl⟩ rfl (fun _ => rfl)).fn
  rw [pset_self hL] at this
  exact this
/-! ### the copy -/
abbrev EnC := Nat × (El .str × El .adr)
@[reducible] def cK2 (e : EnC) : List UInt8 := e.2.1
@[reducible] def mkC (b : Nat) (k : El .str) (a : Nat) : EnC := (b, k, (some a : Option Nat))
def dsk0 : Dsk := ⟨[], [], 0, 0, ⟨0, [], [], fnone⟩, none⟩
def dE (L : List Dsk) (e : EnC) : Dsk := (dk L (cK2 e)).getD dsk0
structure DnC (l done : List EnC) : Prop where
  sub : ∀ e ∈ done, e ∈ l
  nd : (done.map (·.1)).Nodup
def unseenC (seen : List Nat) (l : List EnC) : List EnC := l.filter fun p => !seen.contains p.1
theorem unseenC_lt {seen : List Nat} {l : List EnC} {p : EnC} (hp : p ∈ l) (hn : p.1 ∉ seen) : (unseenC (seen ++ [p.1]) l).length < (unseenC seen l).length := by
  have e : unseenC (seen ++ [p.1]) l = (unseenC seen l).filter fun q => !decide (q.1 = p.1) := by
    unfold unseenC
    rw [List.filter_filter]
    refine List.filter_congr fun q _ => ?_
    by_cases e : q.1 = p.1 <;> simp [e]
  rw [e]
  have hm : p ∈ unseenC seen l := List.mem_filter.2 ⟨hp, by simp [hn]⟩
  exact List.length_filter_lt_length_iff_exists.2 ⟨p, hm, by simp⟩
@[reducible] def ccK : KL := [(0, vP 1001), (3, vP 16), (21, vP 21)]
@[reducible] def ccB (bits room : Int) (L : List Dsk) (b clock : Nat) (l done : List EnC) : BL := [(1001, .cells (chC bits room)), (1002, .obj (.mapG b .str .adr l clock)), (1003, .obj (.pool (chD L))), (1004, .obj (.pool (chM L))), (21, .obj (.iterG b clock (done.map (·.1)) clock)), (16, .cells [.d (.int .i64 bits), .d (.int .i64 room), .mp 14]), (14, .obj (.mapO .str (cpl (done.map (dE L)))))]
@[reducible] def ccK5 (pk : List UInt8) (ad : Nat) : KL := [(0, vP 1001), (3, vP 16), (21, vP 21), (4, vS pk), (5, vAd ad)]
@[reducible] def ccB5 (bits room : Int) (L : List Dsk) (b clock : Nat) (l done : List EnC) (pb : Nat) : BL := [(1001, .cells (chC bits room)), (1002, .obj (.mapG b .str .adr l clock)), (1003, .obj (.pool (chD L))), (1004, .obj (.pool (chM L))), (21, .obj (.iterG b clock (done.map (·.1) ++ [pb]) clock)), (16, .cells [.d (.int .i64 bits), .d (.int .i64 room), .mp 14]), (14, .obj (.mapO .str (cpl (done.map (dE L)))))]
@[reducible] def ccB6 (bits room : Int) (L : List Dsk) (b clock : Nat) (l : List EnC) (D : List Dsk) : BL := [(1001, .cells (chC bits room)), (1002, .obj (.mapG b .str .adr l clock)), (1003, .obj (.pool (chD L))), (1004, .obj (.pool (chM L))), (16, .cells [.d (.int .i64 bits), .d (.int .i64 room), .mp 14]), (14, .obj (.mapO .str (cpl D)))]
@[reducible] def ccB7 (bits room : Int) (L L' : List Dsk) : BL := [(1001, .cells (chC bits room)), (1002, .map .str .adr (chE L)), (1003, .obj (.pool (chD L))), (1004, .obj (.pool (chM L))), (16, .cells [.d (.int .i64 bits), .d (.int .i64 room), .mp 14]), (14, .map .str .adr (chE L')), (5001, .obj (.pool (chD L'))), (5002, .obj (.pool (chM L')))]
@[reducible] def ccB1 (bits room : Int) (L : List Dsk) : BL := chB bits room L ++ [(16, .cells [.d (.int .i64 bits), .d (.int .i64 room), .mp 14]), (14, .map .str .adr [])]
structure CpX (bits room : Nat) (L L' : List Dsk) : Prop where
  cs : CS bits room L'
  eq : Eqv L L'
  pm : (L'.map coreD).Perm (L.map coreD)
@[reducible] def chB2 (bits room : Int) (L : List Dsk) : BL := [(2001, .cells [.d (.int .i64 bits), .d (.int .i64 room), .mp 2002]), (2002, .map .str .adr (chE L)), (2003, .obj (.pool (chD L))), (2004, .obj (.pool (chM L)))]
set_option maxHeartbeats 1000000 in
theorem chcopy_fn {bits room : Nat} {L : List Dsk} (h : CS bits room L) : FnX Try.prog 9 [vP 1001] (chB bits room L) [2001, 2002, 2003, 2004] (X := { L' : List Dsk // CpX bits room L L' }) (fun _ => vP 2001) (fun L' => chB bits room L ++ chB2 bits room L'.1) := by
  obtain ⟨ia, ia1, ia2⟩ := inf_of infAdr
  obtain ⟨ib, ib1, ib2⟩ := inf_of infStr
  refine FnX.of tblOK [2,3,5,6] _ _ _ _ _ Try.func9 rfl rfl (by kernel_rfl) (by kernel_rfl) rfl (drawOK tblOK) rfl ?_
  refine ⟨rfl, ?_⟩
  refine ⟨rfl, ?_⟩
  refine ⟨indep_of (by kernel_rfl), ?_⟩
  show TrQ _ _ _ _ _ _ _
  refine TrQ.le (Le.sub (K' := [(0, vP 1001), (3, vP 16)]) (B' := ccB1 bits room L) ⟨rfl, rfl, trivial⟩ ⟨rfl, rfl, rfl, rfl, rfl, rfl, trivial⟩) ?_
  refine TrQ.leX (LeX.nameMap 1002 rfl) fun x => ?_
  obtain ⟨b, l, clock, hsnd, hrise, hlt⟩ := x
  refine TrQ.go tblOK (drawOK tblOK) [3,5,6] (by kernel_rfl) (Le.refl _ _) ?_
  refine ⟨_, _, fun N => opOK_range (d := 21) rfl Try.underlying52 rfl rfl N, rfl, ?_⟩
  show TrQ _ _ _ _ _ _ _
  have hb : (l.map (·.1)).Nodup := hrise.imp fun h => by omega
  have hke : (l.map cK2).Nodup := by
    have h1 : ((chE L).map fun p => (p.1 : El .str)).Nodup := by
      unfold chE
      rw [List.map_map]
      exact h.nms
    rw [← hsnd, List.map_map] at h1
    exact h1
  have hmem : ∀ p, p ∈ l → ∃ d, d ∈ L ∧ dk L (cK2 p) = some d ∧ p.2 = mkE d := fun p hp => by
    have : p.2 ∈ chE L := by rw [← hsnd]; exact List.mem_map_of_mem hp
    obtain ⟨d, hd, e⟩ := List.mem_map.1 this
    have e1 : cK2 p = d.nm := by show p.2.1 = _; rw [← e]
    exact ⟨d, hd, by rw [e1]; exact dk_mem h.nms hd, e.symm⟩
  refine TrQ.loop tblOK (drawOK tblOK) [3,5,6] (by kernel_rfl) (X := List EnC) (fun _ => ccK) (fun done => ccB bits room L b clock l done) (DnC l) (fun done => (unseenC (done.map (·.1)) l).length) [] ⟨fun e he => (by cases he), List.nodup_nil⟩ ?_ ?_
  · exact Le.trans (Le.emptyMapO 14 rfl) (Le.sub ⟨rfl, rfl, rfl, trivial⟩ ⟨rfl, rfl, rfl, rfl, rfl, rfl, rfl, trivial⟩)
  intro done hd
  show TrQ _ _ _ _ _ _ _
  refine TrQ.regionX tblOK (by kernel_rfl) ?_
  refine ⟨_, opS_next (c := 1002) (r := 21) rfl rfl rfl rfl (fun p hp => hlt _ (List.mem_map_of_mem hp)) (Nat.le_refl _), fun v e hv => ?_⟩
  rcases hv with ⟨p, hp, hs, rfl, rfl⟩ | ⟨hall, rfl, rfl⟩
  · have hmeas := unseenC_lt hp hs
    obtain ⟨d, hdL, hdk, hpe⟩ := hmem p hp
    have hnk : ∀ q ∈ cpl (done.map (dE L)), eqKey .str p.2.1 q.1 = false := fun q hq => by
      obtain ⟨x, hx, rfl⟩ := List.mem_map.1 hq
      obtain ⟨e, he, rfl⟩ := List.mem_map.1 hx
      rw [Bool.eq_false_iff]
      intro hk
      have hk : cK2 p = (dE L e).nm := of_decide_eq_true (show decide (cK2 p = (dE L e).nm) = true from hk)
      obtain ⟨d2, g1, g2, g3⟩ := hmem e (hd.sub e he)
      have g4 : (dE L e).nm = cK2 e := by
        unfold dE
        rw [g2]
        exact (dk_get g2).2
      have := nodup_keyH hke (hd.sub e he) hp (g4.symm.trans hk.symm)
      exact hs (this ▸ List.mem_map_of_mem he)
    have hdn : DnC l (done ++ [p]) := by
      refine ⟨fun e he => ?_, ?_⟩
      · rcases List.mem_append.1 he with he | he
        · exact hd.sub e he
        · rw [List.mem_singleton] at he; rw [he]; exact hp
      · rw [List.map_append]
        exact List.nodup_append.2 ⟨hd.nd, by simp, fun x hx y hy => by
          rw [List.map_singleton, List.mem_singleton] at hy
          rw [hy]
          exact fun e => hs (e ▸ hx)⟩
    have hmd : (done ++ [p]).map (·.1) = done.map (·.1) ++ [p.1] := by rw [List.map_append]; rfl
    have hdE : dE L p = d := by unfold dE; rw [hdk]; rfl
    have hcp : cpl (done.map (dE L)) ++ [((p.2.1 : El .str), pairO d.back (imO d.im))] = cpl ((done ++ [p]).map (dE L)) := by
      rw [List.map_append, List.map_singleton, hdE]
      unfold cpl
      rw [List.map_append, List.map_singleton]
      have : (p.2.1 : El .str) = (d.nm : El .str) := congrArg (·.1) hpe
      rw [this]
    have hLd := h.toChN.D hdL
    have hic := icopyP (h.ims d hdL).1 (h.unp d hdL) (h.toChN.M hdL)
    refine ⟨_, _, fun N => opOK_entry (c := 1002) (r := 21) rfl rfl rfl rfl hp N, rfl, ?_⟩
    obtain ⟨pb, pk, pa⟩ := p
    have hpa : pa = some d.ad := congrArg (·.2) hpe
    subst hpa
    show TrQ _ _ _ _ _ _ _
    refine TrQ.go tblOK (drawOK tblOK) [6] (by kernel_rfl) (Le.sub (K' := ccK5 pk d.ad) (B' := ccB5 bits room L b clock l done pb) ⟨rfl, rfl, rfl, rfl, rfl, trivial⟩ ⟨rfl, rfl, rfl, rfl, rfl, rfl, rfl, trivial⟩) ?_
    refine ⟨_, _, fun N => opOK_nilAdr (b := d.ad) rfl rfl N, rfl, ?_⟩
    refine ⟨_, _, fun N => opOK_fieldAdr rfl Try.underlying66 rfl rfl ia1 (by rw [ia2]; decide) rfl N, rfl, ?_⟩
    refine ⟨_, _, fun N => opOK_loadRaw (q := 1003) rfl Try.underlying40 rfl rfl rfl hLd rfl N, rfl, ?_⟩
    refine ⟨_, _, _, _, Fn.ren [(2001, 3001)] hic, ⟨rfl, trivial⟩, rfl, ?_⟩
    refine ⟨_, _, fun N => opOK_nilAdr (b := d.ad) rfl rfl N, rfl, ?_⟩
    refine ⟨_, _, fun N => opOK_fieldAdr rfl Try.underlying66 rfl rfl ib1 (by rw [ib2]; decide) rfl N, rfl, ?_⟩
    refine ⟨_, _, fun N => opOK_loadRaw (q := 1003) rfl Try.underlying9 rfl rfl rfl hLd rfl N, rfl, ?_⟩
    refine ⟨rfl, ?_⟩
    refine ⟨_, _, fun N => opOK_putPair (c := 14) (d := 42) (e := 3001) rfl Try.underlying52 (dk := .string) (by kernel_rfl) rfl rfl rfl rfl rfl rfl rfl (by decide) (by decide) (by decide) hnk N, rfl, ?_⟩
    refine ⟨indep_of (by kernel_rfl), ?_⟩
    refine ⟨done ++ [mkC pb pk d.ad], hdn, by rw [hmd]; exact hmeas, Le.sub ⟨rfl, rfl, rfl, trivial⟩ ⟨rfl, rfl, rfl, rfl, ?_, rfl, congrArg (fun z => some (Ch.obj (.mapO .str z))) hcp, trivial⟩⟩
    rw [hmd]
    rfl
  · have hperm : (done.map (·.2)).Perm (chE L) := by
      rw [← hsnd]
      refine List.Perm.map _ ?_
      have n1 : done.Nodup := by
        have := hd.nd
        rw [List.Nodup, List.pairwise_map] at this
        exact this.imp fun h e => h (by rw [e])
      have n2 : l.Nodup := by
        have := hb
        rw [List.Nodup, List.pairwise_map] at this
        exact this.imp fun h e => h (by rw [e])
      refine (List.perm_ext_iff_of_nodup n1 n2).2 fun e => ⟨hd.sub e, fun he => ?_⟩
      obtain ⟨e', he', e1⟩ := List.mem_map.1 (hall e he)
      rw [← nodup_keyH hb (hd.sub e' he') he e1]
      exact he'
    have hpD : (done.map (dE L)).Perm L := by
      have h1 := hperm.map fun e : El .str × El .adr => (dk L e.1).getD dsk0
      rw [List.map_map] at h1
      refine h1.trans (List.Perm.of_eq ?_)
      unfold chE
      rw [List.map_map]
      conv => rhs; rw [← List.map_id L]
      refine List.map_congr_left fun d hdl => ?_
      show (dk L d.nm).getD dsk0 = d
      rw [dk_mem h.nms hdl]
      rfl
    show TrQ _ _ _ _ _ _ _
    refine TrQ.le (Le.sub (K' := [(3, vP 16)]) (B' := ccB6 bits room L b clock l (done.map (dE L))) ⟨rfl, trivial⟩ ⟨rfl, rfl, rfl, rfl, rfl, rfl, trivial⟩) ?_
    generalize done.map (dE L) = D at *
    refine TrQ.leX (LeX.openMapO 14 5001 rfl rfl) fun ads => ?_
    obtain ⟨ads, ha⟩ := ads
    have ha : ads.length = D.length := by rw [ha]; exact List.length_map _
    refine TrQ.leX (LeX.splitPairs 5001 5002 (l := D) ha rfl rfl) fun ms => ?_
    obtain ⟨ms, hm⟩ := ms
    refine TrQ.leX (LeX.poolNd 5001 (chD_anch (mkD D ads ms)) rfl) fun nd1 => ?_
    refine TrQ.leX (LeX.poolNd 5002 (chM_anch (mkD D ads ms) mkD_unp) rfl) fun nd2 => ?_
    obtain ⟨nd1⟩ := nd1
    obtain ⟨nd2⟩ := nd2
    have hpc : ((mkD D ads ms).map coreD).Perm (L.map coreD) := by rw [mkD_core ha hm]; exact hpD.map _
    have nd1 : ((mkD D ads ms).map (·.ad)).Nodup := by unfold chD at nd1; rw [List.map_map] at nd1; exact nd1
    have nd2 : ((mkD D ads ms).map (·.am)).Nodup := by unfold chM at nd2; rw [List.map_map] at nd2; exact nd2
    have hX : CpX bits room L (mkD D ads ms) := ⟨cs_copy h hpc nd1 nd2 mkD_unp, eqv_of h.nms hpc, hpc⟩
    have hE2 := mkD_E ha hm
    generalize mkD D ads ms = L' at *
    refine TrQ.le (Le.mapOf 1002 rfl) ?_
    refine TrQ.go tblOK (drawOK tblOK) [] (by kernel_rfl) (Le.sub (K' := [(3, vP 16)]) (B' := ccB7 bits room L L') ⟨rfl, trivial⟩ ⟨rfl, congrArg (fun z => some (Ch.map .str .adr z)) hsnd, rfl, rfl, rfl, congrArg (fun z => some (Ch.map .str .adr z)) hE2, rfl, rfl, trivial⟩) ?_
    exact ⟨⟨L', hX⟩, _, _, _, Le.trans (Le.ren 16 2001 rfl) (Le.trans (Le.ren 14 2002 rfl) (Le.trans (Le.ren 5001 2003 rfl) (Le.ren 5002 2004 rfl))), rfl, rfl, ⟨rfl, rfl, rfl, rfl, rfl, rfl, rfl, rfl, trivial⟩, rfl⟩
end Go.Proofs.Ytbcngglcaeehbaa
