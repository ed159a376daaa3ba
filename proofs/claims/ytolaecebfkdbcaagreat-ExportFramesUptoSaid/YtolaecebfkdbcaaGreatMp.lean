/-
  Maps of data: looked up, written, deleted from: what the machine does.
-/
import Derived.Test.YtolaecebfkdbcaaGreatU
import Derived.MapKept
import Derived.ChangeMaps4
set_option linter.unusedVariables false
set_option linter.unusedSimpArgs false
namespace Go.Proofs.YtolaecebfkdbcaaGreat
open Go.RowKit

/-- Are two keys the same? -/
def eqI (a b : Int) : Bool := decide (a = b)
def eqS (a b : List UInt8) : Bool := decide (a = b)
def eqKey : (u : U) → El u → El u → Bool
  | .int _, a, b => eqI a b
  | .str, a, b => eqS a b
  | _, _, _ => false
def mget {ku vu : U} : List (El ku × El vu) → El ku → Option (El vu)
  | [], _ => none
  | p :: l, k => match eqKey ku k p.1 with
    | true => some p.2
    | false => mget l k
def mput {ku vu : U} : List (El ku × El vu) → El ku → El vu → List (El ku × El vu)
  | [], k, x => [(k, x)]
  | p :: l, k, x => match eqKey ku k p.1 with
    | true => (k, x) :: l
    | false => p :: mput l k x
def mdel {ku vu : U} : List (El ku × El vu) → El ku → List (El ku × El vu)
  | [], _ => []
  | p :: l, k => match eqKey ku k p.1 with
    | true => l
    | false => p :: mdel l k
/-- The kinds of keys. -/
def keyD : U → TypeDesc → Bool
  | .int k, .int k' => k == k'
  | .str, .string => true
  | _, _ => false
section
variable {P : Program} {I : Nat → Prop} {w : World} {ku vu : U}
theorem keyD_isKey {d : TypeDesc} (hd : keyD ku d = true) (a : El ku) : MapKept.IsKey d (keyV ku a) := by
  cases ku <;> cases d <;> simp [keyD] at hd
  · subst hd; simp [keyV, MapKept.IsKey]
  · simp [keyV, MapKept.IsKey]
theorem keyV_inj {d : TypeDesc} (hd : keyD ku d = true) (a b : El ku) : keyV ku a = keyV ku b ↔ eqKey ku a b = true := by
  cases ku <;> cases d <;> simp [keyD] at hd
  · have : ∀ (k : IntKind) (a b : Int), Value.int k a = Value.int k b ↔ eqI a b = true := fun k a b => by simp [eqI]
    exact this _ a b
  · have : ∀ (a b : List UInt8), Value.string ⟨List.toArray a⟩ = Value.string ⟨List.toArray b⟩ ↔ eqS a b = true := fun a b => by simp [eqS]
    exact this a b
theorem mapU_length : ∀ {l : List (El ku × El vu)} {es : List MapEntry}, MapU I w ku vu l es → es.length = l.length
  | [], _, h => by rw [show _ = [] from h]; rfl
  | p :: l, _, ⟨e, r, h, _, _, h3⟩ => by rw [h, List.length_cons, List.length_cons, mapU_length h3]
theorem mapU_keys {d : TypeDesc} (hd : keyD ku d = true) : ∀ {l : List (El ku × El vu)} {es : List MapEntry}, MapU I w ku vu l es → ∀ x ∈ es, MapKept.IsKey d x.key
  | [], _, h, x, hx => by rw [show _ = [] from h] at hx; cases hx
  | p :: l, _, ⟨e, r, h, h1, _, h3⟩, x, hx => by
    rw [h] at hx
    rcases List.mem_cons.1 hx with rfl | hx
    · rw [h1]; exact keyD_isKey hd _
    · exact mapU_keys hd h3 x hx
/-- What is found. -/
theorem findNow_map {d : TypeDesc} (hd : keyD ku d = true) (k : El ku) : ∀ (l : List (El ku × El vu)) (es : List MapEntry) (i : Nat), MapU I w ku vu l es →
    (Instr.findNow d (keyV ku k) es i = some none ∧ mget l k = none ∧ (∀ x, mput l k x = l ++ [(k, x)]) ∧ mdel l k = l) ∨
    ∃ (j : Nat) (x : El vu) (e : MapEntry), Instr.findNow d (keyV ku k) es i = some (some (i + j, e.val)) ∧ mget l k = some x ∧ es[j]? = some e ∧ e.key = keyV ku k ∧ DenE I w vu x e.val ∧ (∀ y, mput l k y = l.set j (k, y)) ∧ mdel l k = l.eraseIdx j
  | [], _, i, h => by
    rw [show _ = [] from h]
    exact .inl ⟨rfl, rfl, fun _ => rfl, rfl⟩
  | p :: l, _, i, ⟨e, r, h, h1, h2, h3⟩ => by
    subst h
    obtain ⟨b, hb, hiff⟩ := MapKept.sameNow_of_keys (keyD_isKey hd k) (keyD_isKey hd p.1)
    rw [← h1] at hb
    cases hk : eqKey ku k p.1 with
    | true =>
      have hbt : b = true := hiff.2 ((keyV_inj hd k p.1).2 hk)
      subst hbt
      refine .inr ⟨0, p.2, e, by simp [Instr.findNow, hb], by simp [mget, hk], rfl, by rw [h1]; exact ((keyV_inj hd k p.1).2 hk).symm, h2, fun y => by simp [mput, hk], by simp [mdel, hk]⟩
    | false =>
      have hbf : b = false := by
        cases b with
        | false => rfl
        | true => have := (keyV_inj hd k p.1).1 (hiff.1 rfl); rw [hk] at this; cases this
      subst hbf
      rcases findNow_map hd k l r (i + 1) h3 with ⟨a1, a2, a3, a4⟩ | ⟨j, x, e', a1, a2, a3, a4, a5, a6, a7⟩
      · exact .inl ⟨by simp [Instr.findNow, hb, a1], by simp [mget, hk, a2], fun y => by simp [mput, hk, a3], by simp [mdel, hk, a4]⟩
      · exact .inr ⟨j + 1, x, e', by simp [Instr.findNow, hb, a1]; omega, by simp [mget, hk, a2], by simpa using a3, a4, a5, fun y => by simp [mput, hk, a6], by simp [mdel, hk, a7]⟩
theorem lookup_run {t kt et : TypeId} {d : TypeDesc} (ht : P.underlying t = some (.map kt et)) (hk : P.underlying kt = some d) (hd : keyD ku d = true) {b : Nat} {ents : List MapEntry} {clock : Nat} (hb : w.heap[b]? = some (.map (List.toArray ents) clock))
    {l : List (El ku × El vu)} (hm : MapU I w ku vu l ents) {z : Value} (hz : (zeroValue et).run P w = .ok z w) (hzd : DenE I w vu (dflt vu) z) (k : El ku) (c : Bool) :
    ∃ v, (Instr.lookup t (.map (some b)) (keyV ku k) c).run P w = .ok (if c then .tuple #[v, .bool (mget l k).isSome] else v) w ∧ DenE I w vu ((mget l k).getD (dflt vu)) v := by
  have hc := fun e => MapKept.run_checkKey (P := P) (w := w) hk (keyD_isKey hd k) e 9999
  rcases findNow_map (I := I) (w := w) hd k l ents 0 hm with ⟨a1, a2, _⟩ | ⟨j, x, e, a1, a2, _, _, a5, _⟩
  · refine ⟨z, ?_, by rw [a2]; exact hzd⟩
    have hf := MapKept.run_findKey (P := P) (w := w) hk a1
    rw [a2]
    simp [Instr.lookup, run_underlying ht, MapKept.run_getObj_map hb, hc, hf, hz, Result.andThen]
  · refine ⟨e.val, ?_, by rw [a2]; exact a5⟩
    have hf := MapKept.run_findKey (P := P) (w := w) hk a1
    rw [a2]
    simp [Instr.lookup, run_underlying ht, MapKept.run_getObj_map hb, hc, hf, Result.andThen]
/-! ### written, deleted from -/
theorem mapU_append : ∀ {l : List (El ku × El vu)} {es : List MapEntry}, MapU I w ku vu l es → ∀ {k : El ku} {x : El vu} {e : MapEntry}, e.key = keyV ku k → DenE I w vu x e.val → MapU I w ku vu (l ++ [(k, x)]) (es ++ [e])
  | [], _, h, k, x, e, h1, h2 => by rw [show _ = [] from h]; exact ⟨e, [], rfl, h1, h2, rfl⟩
  | p :: l, _, ⟨e', r, h, a1, a2, a3⟩, k, x, e, h1, h2 => by rw [h]; exact ⟨e', r ++ [e], rfl, a1, a2, mapU_append a3 h1 h2⟩
theorem mapU_set : ∀ {l : List (El ku × El vu)} {es : List MapEntry}, MapU I w ku vu l es → ∀ {k : El ku} {x : El vu} {e : MapEntry} (j : Nat), e.key = keyV ku k → DenE I w vu x e.val → MapU I w ku vu (l.set j (k, x)) (es.set j e)
  | [], _, h, k, x, e, j, h1, h2 => by rw [show _ = [] from h]; rfl
  | p :: l, _, ⟨e', r, h, a1, a2, a3⟩, k, x, e, 0, h1, h2 => by rw [h]; exact ⟨e, r, rfl, h1, h2, a3⟩
  | p :: l, _, ⟨e', r, h, a1, a2, a3⟩, k, x, e, j + 1, h1, h2 => by rw [h]; exact ⟨e', r.set j e, rfl, a1, a2, mapU_set a3 j h1 h2⟩
theorem mapU_erase : ∀ {l : List (El ku × El vu)} {es : List MapEntry}, MapU I w ku vu l es → ∀ (j : Nat), MapU I w ku vu (l.eraseIdx j) (es.eraseIdx j)
  | [], _, h, j => by rw [show _ = [] from h]; rfl
  | p :: l, _, ⟨e', r, h, a1, a2, a3⟩, 0 => by rw [h]; exact a3
  | p :: l, _, ⟨e', r, h, a1, a2, a3⟩, j + 1 => by rw [h]; exact ⟨e', r.eraseIdx j, rfl, a1, a2, mapU_erase a3 j⟩
theorem births_append {es : List MapEntry} {c : Nat} (h : Births es c) (key val : Value) : Births (es ++ [⟨key, val, c⟩]) (c + 1) := by
  refine ⟨?_, fun e he => ?_⟩
  · rw [List.map_append, List.pairwise_append]
    refine ⟨h.1, by simp, fun a ha b hb => ?_⟩
    obtain ⟨e, he, rfl⟩ := List.mem_map.1 ha
    simp only [List.map_cons, List.map_nil, List.mem_singleton] at hb
    subst hb
    exact h.2 e he
  · rcases List.mem_append.1 he with he | he
    · have := h.2 e he; omega
    · simp only [List.mem_singleton] at he; subst he; simp
theorem births_set {es : List MapEntry} {c : Nat} (h : Births es c) {j : Nat} {e0 e : MapEntry} (hj : es[j]? = some e0) (hb : e.born = e0.born) : Births (es.set j e) c := by
  have hm : (es.set j e).map (·.born) = es.map (·.born) := by
    rw [List.map_set]
    refine List.ext_getElem? fun i => ?_
    rw [List.getElem?_set]
    split
    · rename_i hi
      subst hi
      have := (List.getElem?_eq_some_iff.1 hj).1
      rw [if_pos (by simpa using this), List.getElem?_map, hj, hb]
      rfl
    · rfl
  refine ⟨by rw [hm]; exact h.1, fun x hx => ?_⟩
  have h1 : x.born ∈ (es.set j e).map (·.born) := List.mem_map_of_mem hx
  rw [hm] at h1
  obtain ⟨y, hy, hyx⟩ := List.mem_map.1 h1
  rw [← hyx]
  exact h.2 y hy
theorem births_erase {es : List MapEntry} {c : Nat} (h : Births es c) (j : Nat) : Births (es.eraseIdx j) c :=
  ⟨h.1.sublist ((List.eraseIdx_sublist es j).map _), fun e he => h.2 e ((List.eraseIdx_sublist es j).subset he)⟩
theorem sameBits_key (a : El ku) {d : TypeDesc} (hd : keyD ku d = true) (n : Nat) : Instr.sameBits (n + 1) (keyV ku a) (keyV ku a) = true := by
  cases ku <;> cases d <;> simp [keyD] at hd
  · have : ∀ (k : IntKind) (a : Int), Instr.sameBits (n + 1) (.int k a) (.int k a) = true := fun k a => by simp [Instr.sameBits]
    exact this _ a
  · simp only [keyV, Instr.sameBits]
    exact (MapKept.bytes_beq _ _).2 rfl
theorem update_run {t kt et : TypeId} {d : TypeDesc} (ht : P.underlying t = some (.map kt et)) (hk : P.underlying kt = some d) (hd : keyD ku d = true) {b : Nat} {ents : List MapEntry} {clock : Nat} (hb : w.heap[b]? = some (.map (List.toArray ents) clock))
    {l : List (El ku × El vu)} (hm : MapU I w ku vu l ents) (hB : Births ents clock) (k : El ku) {x : El vu} {v : Value} (hv : DenE I w vu x v) :
    ∃ es' clock', (Instr.mapUpdate t (.map (some b)) (keyV ku k) v).run P w = .ok () { w with heap := w.heap.setIfInBounds b (.map (List.toArray es') clock') } ∧ MapU I w ku vu (mput l k x) es' ∧ Births es' clock' := by
  have hc := fun e => MapKept.run_checkKey (P := P) (w := w) hk (keyD_isKey hd k) e 9999
  have hst := fun o => MapKept.run_setObj_map (P := P) o hb
  rcases findNow_map (I := I) (w := w) hd k l ents 0 hm with ⟨a1, a2, a3, _⟩ | ⟨j, y, e, a1, a2, a3, a4, a5, a6, _⟩
  · have hf := MapKept.run_findKey (P := P) (w := w) hk a1
    refine ⟨ents ++ [⟨keyV ku k, v, clock⟩], clock + 1, ?_, by rw [a3]; exact mapU_append hm rfl hv, births_append hB _ _⟩
    simp [Instr.mapUpdate, run_underlying ht, MapKept.run_getObj_map hb, hc, hf, hst, Result.andThen]
  · have hf := MapKept.run_findKey (P := P) (w := w) hk a1
    have hjl := (List.getElem?_eq_some_iff.1 a3).1
    refine ⟨ents.set j ⟨keyV ku k, v, e.born⟩, clock, ?_, by rw [a6]; exact mapU_set hm j rfl hv, births_set hB a3 rfl⟩
    have hmod : ents.modify j (fun e' => { e' with key := keyV ku k, val := v }) = ents.set j ⟨keyV ku k, v, e.born⟩ := by
      refine List.ext_getElem? fun i => ?_
      rw [List.getElem?_modify, List.getElem?_set]
      by_cases hij : j = i
      · subst hij
        have he := (List.getElem?_eq_some_iff.1 a3).2
        simp [hjl, he]
      · simp [hij]
    simp [Instr.mapUpdate, run_underlying ht, MapKept.run_getObj_map hb, hc, hf, hst, Result.andThen, a3, a4, Instr.keyThatStays, sameBits_key k hd, hmod]
theorem delete_run {t kt et ty : TypeId} {d : TypeDesc} (ht : P.underlying t = some (.map kt et)) (hk : P.underlying kt = some d) (hd : keyD ku d = true) {b : Nat} {ents : List MapEntry} {clock : Nat} (hb : w.heap[b]? = some (.map (List.toArray ents) clock))
    {l : List (El ku × El vu)} (hm : MapU I w ku vu l ents) (hB : Births ents clock) (k : El ku) (kt' : TypeId) :
    ∃ es', (Builtin.delete_ #[t, kt'] ty #[.map (some b), keyV ku k]).run P w = .ok (.tuple #[]) { w with heap := w.heap.setIfInBounds b (.map (List.toArray es') clock) } ∧ MapU I w ku vu (mdel l k) es' ∧ Births es' clock := by
  have hc := fun e => MapKept.run_checkKey (P := P) (w := w) hk (keyD_isKey hd k) e 9999
  have hst := fun o => MapKept.run_setObj_map (P := P) o hb
  rcases findNow_map (I := I) (w := w) hd k l ents 0 hm with ⟨a1, a2, _, a3⟩ | ⟨j, y, e, a1, a2, a3, a4, a5, _, a6⟩
  · have hf := MapKept.run_findKey (P := P) (w := w) hk a1
    refine ⟨ents, ?_, by rw [a3]; exact hm, hB⟩
    simp [Builtin.delete_, run_underlying ht, MapKept.run_getObj_map hb, hc, hf, hst, Result.andThen]
  · have hf := MapKept.run_findKey (P := P) (w := w) hk a1
    have hjl := (List.getElem?_eq_some_iff.1 a3).1
    refine ⟨ents.eraseIdx j, ?_, by rw [a6]; exact mapU_erase hm j, births_erase hB j⟩
    have her : (List.toArray ents).eraseIdxIfInBounds j = List.toArray (ents.eraseIdx j) := by
      apply Array.ext'
      unfold Array.eraseIdxIfInBounds
      rw [dif_pos (by simpa using hjl)]
      simp
    simp [Builtin.delete_, run_underlying ht, MapKept.run_getObj_map hb, hc, hf, hst, Result.andThen, her]
theorem make_run {t : TypeId} : (Instr.makeMap t none).run P w = .ok (.map (some w.heap.size)) (w.alloc (.map #[] 0)) := by
  simp only [Instr.makeMap, Sem.run_bind, run_newObj_alloc, Result.andThen, Sem.run_pure]
end
end Go.Proofs.YtolaecebfkdbcaaGreat
