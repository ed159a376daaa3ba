/-
  A list, written: the program's way, the document's way.
-/
import Derived.Test.YthghcdddambaeaaO1
import Derived.Test.YthghcdddambaeaaLD
set_option linter.unusedVariables false
set_option linter.unusedSimpArgs false
set_option maxRecDepth 10000
namespace Go.Proofs.Ythghcdddambaeaa
open Go.RowKit Go.Proofs

def encP (p : Pie) : List UInt8 := encR (pC p).toNat 2 ++ encT (pB p) 2
def encB (b : Bup) : List UInt8 := encT (bNm b) 1 ++ encT (bPa b) 1 ++ encR (bBits b).toNat 1 ++ encR (bSz b).toNat 2 ++ encR (bPc b).length 2 ++ (bPc b).flatMap encP
def encL (L : List Bup) : List UInt8 := encR L.length 1 ++ L.flatMap encB
/-- So small that it can be written. -/
structure Wr (b : Bup) : Prop where
  nm : (bNm b).length ≤ 255
  pa : (bPa b).length ≤ 255
  bits : 0 ≤ bBits b ∧ bBits b ≤ 255
  sz : 0 ≤ bSz b ∧ bSz b ≤ 65535
  pcs : (bPc b).length ≤ 256
  pc : ∀ p, p ∈ bPc b → 0 ≤ pC p ∧ pC p ≤ 65535 ∧ (pB p).length ≤ 128
theorem encP_length {b : Bup} (h : Wr b) {p : Pie} (hp : p ∈ bPc b) : (encP p).length ≤ 132 := by
  have := h.pc p hp
  unfold encP
  rw [List.length_append, encR_length, encT_length]; omega
theorem flat_le {α : Type} (f : α → List UInt8) (n : Nat) : ∀ (l : List α), (∀ x, x ∈ l → (f x).length ≤ n) → (l.flatMap f).length ≤ l.length * n
  | [], _ => by simp
  | x :: l, h => by
    have h1 := h x List.mem_cons_self
    have h2 := flat_le f n l fun y hy => h y (List.mem_cons_of_mem _ hy)
    simp only [List.flatMap_cons, List.length_append, List.length_cons, Nat.succ_mul]
    omega
theorem encB_length {b : Bup} (h : Wr b) : (encB b).length ≤ 35000 := by
  have h1 := flat_le encP 132 (bPc b) fun p hp => encP_length h hp
  have h2 : (bPc b).length * 132 ≤ 256 * 132 := Nat.mul_le_mul_right _ h.pcs
  have := h.nm
  have := h.pa
  unfold encB
  simp only [List.length_append, encR_length, encT_length]
  omega
theorem flat_step {α : Type} (f : α → List UInt8) {l : List α} {k : Nat} (h : k < l.length) : (l.take (k + 1)).flatMap f = (l.take k).flatMap f ++ f l[k] := by
  rw [← take_step h, List.flatMap_append]
  simp
theorem ints1 {x : Int} (h : 0 ≤ x) : ([x] : List Int) = intsL [x.toNat] := by
  show [x] = [((x.toNat : Nat) : Int)]
  rw [show ((x.toNat : Nat) : Int) = x by omega]
@[reducible] def enK (L : List Bup) (r k : Nat) : KL := [(3, vOwn r), (22, vOwn 1002), (23, vI (L.length : Nat)), (24, vI (k : Nat))]
@[reducible] def enB (L : List Bup) (r : Nat) (l : List UInt8) : BL := (r, .row 5 .u8 l) :: lstB L
@[reducible] def enK2 (L : List Bup) (b : Bup) (r k j : Nat) : KL := [(3, vOwn r), (22, vOwn 1002), (23, vI (L.length : Nat)), (24, vI (k : Nat)), (62, vL uP (bPc b)), (63, vI ((bPc b).length : Nat)), (64, vI (j : Nat))]
set_option maxHeartbeats 4000000 in
theorem encode_spec (L : List Bup) (hL : L.length ≤ 255) (hw : ∀ b, b ∈ L → Wr b) : Fn Try.prog 30 [vP 1001] (lstB L) [] (vL .u8 (encL L)) (lstB L) := by
  refine Fn.of tblOK [] _ _ _ _ _ Try.func30 rfl rfl (by kernel_rfl) (by kernel_rfl) rfl (drawOK tblOK) rfl ?_
  refine ⟨_, _, _, _, Fn.ren [(1002, 2002)] (put_nil 1 [L.length] (.inl rfl) (fun n hn => by simp only [List.mem_singleton] at hn; omega) (by simp)), trivial, rfl, ?_⟩
  show TrQ _ _ _ _ _ _ _
  refine TrQ.loop tblOK (drawOK tblOK) [] (by kernel_rfl) (X := Nat) (enK L 2001) (fun k => enB L 2001 (encR L.length 1 ++ (L.take k).flatMap encB)) (fun k => k ≤ L.length) (fun k => L.length - k) 0 (Nat.zero_le _) ?_ ?_
  · exact Le.trans (Le.sub (K' := enK L 2002 0) (B' := enB L 2002 (encR L.length 1 ++ (L.take 0).flatMap encB)) ⟨rfl, rfl, rfl, rfl, trivial⟩ ⟨rfl, rfl, rfl, trivial⟩) (Le.ren 2002 2001 rfl)
  intro k hk
  have hacc : ((L.take k).flatMap encB).length ≤ 255 * 35000 := by
    refine Nat.le_trans (flat_le encB 35000 _ fun b hb => encB_length (hw b (List.mem_of_mem_take hb))) (Nat.mul_le_mul_right _ ?_)
    rw [List.length_take]; omega
  refine ⟨fun h => ?_, fun h => ?_⟩
  · have hk1 : k < L.length := by simpa using h
    have hs := flat_step encB hk1
    have hb := hw _ (List.getElem_mem hk1)
    refine ⟨⟨by omega, by omega⟩, L[k], lget_at rfl hk1, rfl, ?_⟩
    generalize L[k] = b at *
    have h1 := hb.nm
    have h2 := hb.pa
    have h3 := hb.bits
    have h4 := hb.sz
    have h5 := hb.pcs
    have l0 := encR_length L.length 1
    generalize hA : encR L.length 1 ++ (L.take k).flatMap encB = A at *
    have hAl : A.length ≤ 9000000 := by rw [← hA, List.length_append, l0]; omega
    refine ⟨_, _, _, _, Fn.ren [(1001, 2001), (1002, 2002)] (otext_spec A (bNm b) 1 (.inl rfl) (by omega) (by omega) (by omega)), ⟨rfl, trivial⟩, rfl, ?_⟩
    have l1 := encT_length (bNm b) 1
    refine ⟨_, _, _, _, Fn.ren [(1001, 2002), (1002, 2003)] (otext_spec (A ++ encT (bNm b) 1) (bPa b) 1 (.inl rfl) (by omega) (by omega) (by rw [List.length_append, l1]; omega)), ⟨rfl, trivial⟩, rfl, ?_⟩
    have l2 := encT_length (bPa b) 1
    refine ⟨_, _, _, _, Fn.arg (Fn.ren [(1001, 2003), (1002, 2004)] (put_spec (A ++ encT (bNm b) 1 ++ encT (bPa b) 1) 1 [(bBits b).toNat] (.inl rfl) (fun n hn => by simp only [List.mem_singleton] at hn; omega) (by simp) (by rw [List.length_append, List.length_append, l1, l2]; omega))) ⟨rfl, rfl, ints1 h3.1, trivial⟩, ⟨rfl, trivial⟩, rfl, ?_⟩
    have l3 := encNs_length 1 [(bBits b).toNat]
    have e2 : ([bSz b, ((bPc b).length : Int)] : List Int) = intsL [(bSz b).toNat, (bPc b).length] := by
      show _ = [(((bSz b).toNat : Nat) : Int), (((bPc b).length : Nat) : Int)]
      rw [show (((bSz b).toNat : Nat) : Int) = bSz b by omega]
    refine ⟨_, _, _, _, Fn.arg (Fn.ren [(1001, 2004), (1002, 2005)] (put_spec (A ++ encT (bNm b) 1 ++ encT (bPa b) 1 ++ encNs 1 [(bBits b).toNat]) 2 [(bSz b).toNat, (bPc b).length] (.inr (.inl rfl)) (fun n hn => by
      simp only [List.mem_cons, List.not_mem_nil, or_false] at hn; rcases hn with rfl | rfl <;> omega) (by simp) (by rw [List.length_append, List.length_append, List.length_append, l1, l2, l3]; simp; omega))) ⟨rfl, rfl, e2, trivial⟩, ⟨rfl, trivial⟩, rfl, ?_⟩
    have l4 := encNs_length 2 [(bSz b).toNat, (bPc b).length]
    have hE : A ++ encT (bNm b) 1 ++ encT (bPa b) 1 ++ encNs 1 [(bBits b).toNat] ++ encNs 2 [(bSz b).toNat, (bPc b).length] ++ (bPc b).flatMap encP = A ++ encB b := by
      unfold encB encNs
      simp [List.append_assoc]
    have hAl2 : (A ++ encT (bNm b) 1 ++ encT (bPa b) 1 ++ encNs 1 [(bBits b).toNat] ++ encNs 2 [(bSz b).toNat, (bPc b).length]).length ≤ 9100000 := by
      rw [List.length_append, List.length_append, List.length_append, List.length_append, l1, l2, l3, l4]
      simp
      omega
    generalize A ++ encT (bNm b) 1 ++ encT (bPa b) 1 ++ encNs 1 [(bBits b).toNat] ++ encNs 2 [(bSz b).toNat, (bPc b).length] = A2 at *
    show TrQ _ _ _ _ _ _ _
    refine TrQ.loop tblOK (drawOK tblOK) [] (by kernel_rfl) (X := Nat) (enK2 L b 2001 k) (fun j => enB L 2001 (A2 ++ ((bPc b).take j).flatMap encP)) (fun j => j ≤ (bPc b).length) (fun j => (bPc b).length - j) 0 (Nat.zero_le _) ?_ ?_
    · exact Le.trans (Le.sub (K' := enK2 L b 2005 k 0) (B' := enB L 2005 (A2 ++ ((bPc b).take 0).flatMap encP)) ⟨rfl, rfl, rfl, rfl, rfl, rfl, rfl, trivial⟩ ⟨congrArg (fun l => some (Ch.row _ .u8 l)) (List.append_nil A2).symm, rfl, rfl, trivial⟩) (Le.ren 2005 2001 rfl)
    intro j hj
    refine ⟨fun h => ?_, fun h => ?_⟩
    · have hj1 : j < (bPc b).length := by simpa using h
      have hs2 := flat_step encP hj1
      obtain ⟨p1, p2, p3⟩ := hb.pc _ (List.getElem_mem hj1)
      have hpl : (((bPc b).take j).flatMap encP).length ≤ 256 * 132 := by
        refine Nat.le_trans (flat_le encP 132 _ fun p hp => encP_length hb (List.mem_of_mem_take hp)) (Nat.mul_le_mul_right _ ?_)
        rw [List.length_take]; omega
      refine ⟨by omega, (bPc b)[j], lget_at rfl hj1, rfl, ?_⟩
      generalize (bPc b)[j] = p at *
      generalize ((bPc b).take j).flatMap encP = P2 at *
      refine ⟨_, _, _, _, Fn.arg (Fn.ren [(1001, 2001), (1002, 2002)] (put_spec (A2 ++ P2) 2 [(pC p).toNat] (.inr (.inl rfl)) (fun n hn => by simp only [List.mem_singleton] at hn; omega) (by simp) (by rw [List.length_append]; omega))) ⟨rfl, rfl, ints1 p1, trivial⟩, ⟨rfl, trivial⟩, rfl, ?_⟩
      have l5 := encNs_length 2 [(pC p).toNat]
      refine ⟨_, _, _, _, Fn.ren [(1001, 2002), (1002, 2003)] (otext_spec (A2 ++ P2 ++ encNs 2 [(pC p).toNat]) (pB p) 2 (.inr (.inl rfl)) (by omega) (by omega) (by rw [List.length_append, List.length_append, l5]; simp; omega)), ⟨rfl, trivial⟩, rfl, ?_⟩
      refine ⟨by omega, j + 1, hj1, by omega, ?_⟩
      refine Le.trans (Le.sub (K' := enK2 L b 2003 k (j + 1)) (B' := enB L 2003 (A2 ++ ((bPc b).take (j + 1)).flatMap encP)) ⟨rfl, rfl, rfl, rfl, rfl, rfl, rfl, trivial⟩ ⟨?_, rfl, rfl, trivial⟩) (Le.ren 2003 2001 rfl)
      rw [hs2]
      refine congrArg (fun l => some (Ch.row _ .u8 l)) ?_
      unfold encP encNs
      simp [List.append_assoc]
      rfl
    · have hj1 : j = (bPc b).length := by have : ¬ j < (bPc b).length := by simpa using h
                                          omega
      subst hj1
      rw [List.take_length]
      refine ⟨by omega, k + 1, hk1, by omega, ?_⟩
      refine Le.sub ⟨rfl, rfl, rfl, rfl, trivial⟩ ⟨?_, rfl, rfl, trivial⟩
      rw [hs, ← List.append_assoc, hA, hE]
      rfl
  · have hk1 : k = L.length := by have : ¬ k < L.length := by simpa using h
                                  omega
    subst hk1
    exact ⟨_, _, _, Le.frz 2001 rfl, rfl, (show encR L.length 1 ++ (L.take L.length).flatMap encB = encL L by rw [List.take_length]; rfl), ⟨rfl, rfl, trivial⟩, rfl⟩
end Go.Proofs.Ythghcdddambaeaa
/-
  A list, written the document's way.
-/
set_option linter.unusedVariables false
set_option linter.unusedSimpArgs false
set_option maxRecDepth 10000
namespace Go.Proofs.Ythghcdddambaeaa
open Go.RowKit Go.Proofs

theorem num_arg {x : Int} {w : Nat} (h0 : 0 ≤ x) (hw : W w) (h1 : x.toNat < 256 ^ w) : Fn Try.prog 112 [vI x, vI (w : Nat)] [] [] (vS (encR x.toNat w)) [] := by
  have := onum_spec x.toNat w hw h1
  rwa [show ((x.toNat : Nat) : Int) = x by omega] at this
@[reducible] def erK (r : List RBup) (k : Nat) (out : List UInt8) : KL := [(0, vL uRB r), (3, vS out), (4, vI (k : Nat))]
set_option maxRecDepth 100000 in
set_option maxHeartbeats 4000000 in
theorem encodeR_spec (r : List RBup) (hL : r.length ≤ 255) (hw : ∀ b, b ∈ r.map ownOf → Wr b) : Fn Try.prog 73 [vL uRB r] [] [] (vS (encL (r.map ownOf))) [] := by
  have hlen : (r.map ownOf).length = r.length := List.length_map _
  have hfl : ∀ k, ((r.take k).flatMap fun b => encB (ownOf b)) = ((r.map ownOf).take k).flatMap encB := fun k => by rw [← List.map_take, List.flatMap_map]
  have hEL : encL (r.map ownOf) = encR r.length 1 ++ r.flatMap fun b => encB (ownOf b) := by
    unfold encL
    rw [hlen, List.flatMap_map]
  rw [hEL]
  refine Fn.of tblOK [] _ _ _ _ _ Try.func73 rfl rfl (by kernel_rfl) (by kernel_rfl) rfl (drawOK tblOK) rfl ?_
  refine ⟨_, _, _, _, onum_spec r.length 1 (.inl rfl) (by omega), trivial, rfl, ?_⟩
  show TrQ _ _ _ _ _ _ _
  refine TrQ.loop tblOK (drawOK tblOK) [] (by kernel_rfl) (X := Nat) (fun k => erK r k (encR r.length 1 ++ (r.take k).flatMap fun b => encB (ownOf b))) (fun _ => []) (fun k => k ≤ r.length) (fun k => r.length - k) 0 (Nat.zero_le _) ?_ ?_
  · exact Le.sub ⟨rfl, rfl, rfl, trivial⟩ trivial
  intro k hk
  have hacc : ((r.take k).flatMap fun b => encB (ownOf b)).length ≤ 255 * 35000 := by
    rw [hfl]
    refine Nat.le_trans (flat_le encB 35000 _ fun b hb => encB_length (hw b (List.mem_of_mem_take hb))) (Nat.mul_le_mul_right _ ?_)
    rw [List.length_take]; omega
  refine ⟨fun h => ?_, fun h => ?_⟩
  · have hk1 : k < r.length := by
      have h : (k : Int) < (r.length : Int) := of_decide_eq_true h
      omega
    have hs := flat_step (fun b => encB (ownOf b)) hk1
    have hb := hw _ (List.mem_map_of_mem (List.getElem_mem hk1))
    have hgk := lget_at (L := r) (n := (k : Nat)) rfl hk1
    have h1 : (rNm r[k]).length ≤ 255 := hb.nm
    have h2 : (rPa r[k]).length ≤ 255 := hb.pa
    have h3 : 0 ≤ rBits r[k] ∧ rBits r[k] ≤ 255 := hb.bits
    have h4 : 0 ≤ rSz r[k] ∧ rSz r[k] ≤ 65535 := hb.sz
    have h5 : (rPc r[k]).length ≤ 256 := by
      have : ((rPc r[k]).map pieOf).length ≤ 256 := hb.pcs
      rwa [List.length_map] at this
    have h6 : ∀ p, p ∈ rPc r[k] → 0 ≤ rC p ∧ rC p ≤ 65535 ∧ (rB p).length ≤ 128 := fun p hp => hb.pc (pieOf p) (List.mem_map_of_mem hp)
    have l0 := encR_length r.length 1
    have hB : encB (ownOf r[k]) = encT (rNm r[k]) 1 ++ encT (rPa r[k]) 1 ++ encR (rBits r[k]).toNat 1 ++ encR (rSz r[k]).toNat 2 ++ encR (rPc r[k]).length 2 ++ (rPc r[k]).flatMap fun p => encP (pieOf p) := by
      show encT (rNm r[k]) 1 ++ encT (rPa r[k]) 1 ++ encR (rBits r[k]).toNat 1 ++ encR (rSz r[k]).toNat 2 ++ encR ((rPc r[k]).map pieOf).length 2 ++ ((rPc r[k]).map pieOf).flatMap encP = _
      rw [List.length_map, List.flatMap_map]
    have hpl : ∀ p, p ∈ rPc r[k] → (encP (pieOf p)).length ≤ 132 := fun p hp => encP_length hb (List.mem_map_of_mem hp)
    have n1 := oText_spec (rNm r[k]) 1 (.inl rfl) (by omega) (by omega)
    have n2 := oText_spec (rPa r[k]) 1 (.inl rfl) (by omega) (by omega)
    have n3 := num_arg (w := 1) h3.1 (.inl rfl) (by omega)
    have n4 := num_arg (w := 2) h4.1 (.inr (.inl rfl)) (by omega)
    have n5 := onum_spec (rPc r[k]).length 2 (.inr (.inl rfl)) (by omega)
    have l1 := encT_length (rNm r[k]) 1
    have l2 := encT_length (rPa r[k]) 1
    have l3 := encR_length (rBits r[k]).toNat 1
    have l4 := encR_length (rSz r[k]).toNat 2
    have l5 := encR_length (rPc r[k]).length 2
    generalize hA : (encR r.length 1 ++ (r.take k).flatMap fun b => encB (ownOf b)) = A at *
    have hAl : A.length ≤ 9000000 := by rw [← hA, List.length_append, l0]; omega
    generalize encT (rNm r[k]) 1 = e1 at *
    generalize encT (rPa r[k]) 1 = e2 at *
    generalize encR (rBits r[k]).toNat 1 = e3 at *
    generalize encR (rSz r[k]).toNat 2 = e4 at *
    generalize encR (rPc r[k]).length 2 = e5 at *
    have c1 : A.length + e1.length ≤ 4294967296 := by omega
    have c2 : (A ++ e1).length + e2.length ≤ 4294967296 := by simp only [List.length_append]; omega
    have c3 : (A ++ e1 ++ e2).length + e3.length ≤ 4294967296 := by simp only [List.length_append]; omega
    have c4 : (A ++ e1 ++ e2 ++ e3).length + e4.length ≤ 4294967296 := by simp only [List.length_append]; omega
    have c5 : (A ++ e1 ++ e2 ++ e3 ++ e4).length + e5.length ≤ 4294967296 := by simp only [List.length_append]; omega
    refine ⟨by omega, r[k], hgk, ?_⟩
    refine ⟨_, _, _, _, n1, trivial, rfl, ?_⟩
    refine ⟨by omega, r[k], hgk, ?_⟩
    refine ⟨_, _, _, _, n2, trivial, rfl, ?_⟩
    refine ⟨c1, c2, by omega, r[k], hgk, ?_⟩
    refine ⟨_, _, _, _, n3, trivial, rfl, ?_⟩
    refine ⟨c3, by omega, r[k], hgk, ?_⟩
    refine ⟨_, _, _, _, n4, trivial, rfl, ?_⟩
    refine ⟨c4, by omega, r[k], hgk, ?_⟩
    refine ⟨_, _, _, _, n5, trivial, rfl, ?_⟩
    refine ⟨c5, rfl, ?_⟩
    have hA2 : (A ++ e1 ++ e2 ++ e3 ++ e4 ++ e5).length ≤ 9100000 := by simp only [List.length_append]; omega
    have hA3 : A ++ encB (ownOf r[k]) = A ++ e1 ++ e2 ++ e3 ++ e4 ++ e5 ++ (rPc r[k]).flatMap fun p => encP (pieOf p) := by rw [hB]; simp [List.append_assoc]
    generalize A ++ e1 ++ e2 ++ e3 ++ e4 ++ e5 = A2 at *
    show TrQ _ _ _ _ _ _ _
    refine TrQ.loop tblOK (drawOK tblOK) [] (by kernel_rfl) (X := Nat) (fun j => (9, vI (j : Nat)) :: erK r k (A2 ++ ((rPc r[k]).take j).flatMap fun p => encP (pieOf p))) (fun _ => []) (fun j => j ≤ (rPc r[k]).length) (fun j => (rPc r[k]).length - j) 0 (Nat.zero_le _) ?_ ?_
    · exact Le.sub ⟨rfl, rfl, (List.append_nil A2).symm, rfl, trivial⟩ trivial
    intro j hj
    refine ⟨by omega, r[k], hgk, ?_⟩
    refine ⟨fun h => ?_, fun h => ?_⟩
    · have hj1 : j < (rPc r[k]).length := by
        have h : (j : Int) < ((rPc r[k]).length : Int) := of_decide_eq_true h
        omega
      have hs2 := flat_step (fun p => encP (pieOf p)) hj1
      obtain ⟨p1, p2, p3⟩ := h6 _ (List.getElem_mem hj1)
      have hgj := lget_at (L := rPc r[k]) (n := (j : Nat)) rfl hj1
      have hplj : (((rPc r[k]).take j).flatMap fun p => encP (pieOf p)).length ≤ 256 * 132 := by
        refine Nat.le_trans (flat_le _ 132 _ fun p hp => hpl p (List.mem_of_mem_take hp)) (Nat.mul_le_mul_right _ ?_)
        rw [List.length_take]; omega
      generalize (((rPc r[k]).take j).flatMap fun p => encP (pieOf p)) = P2 at *
      generalize (rPc r[k])[j] = p at *
      have q1 := oText_spec (rB p) 2 (.inr (.inl rfl)) (by omega) (by omega)
      have q2 := num_arg (w := 2) p1 (.inr (.inl rfl)) (by omega)
      have l6 := encT_length (rB p) 2
      have l7 := encR_length (rC p).toNat 2
      have hP : encP (pieOf p) = encR (rC p).toNat 2 ++ encT (rB p) 2 := rfl
      generalize encT (rB p) 2 = t1 at *
      generalize encR (rC p).toNat 2 = t2 at *
      have d1 : (A2 ++ P2).length + t2.length ≤ 4294967296 := by simp only [List.length_append]; omega
      have d2 : (A2 ++ P2 ++ t2).length + t1.length ≤ 4294967296 := by simp only [List.length_append]; omega
      refine ⟨by omega, r[k], hgk, by omega, p, hgj, ?_⟩
      refine ⟨_, _, _, _, q1, trivial, rfl, ?_⟩
      refine ⟨by omega, r[k], hgk, by omega, p, hgj, ?_⟩
      refine ⟨_, _, _, _, q2, trivial, rfl, ?_⟩
      refine ⟨d1, d2, by omega, j + 1, hj1, by omega, ?_⟩
      refine Le.sub ⟨rfl, rfl, ?_, rfl, trivial⟩ trivial
      show _ = A2 ++ ((rPc r[k]).take (j + 1)).flatMap fun p => encP (pieOf p)
      rw [hs2, hP]
      simp [List.append_assoc]
    · have hj1 : j = (rPc r[k]).length := by
        have h : ¬ (j : Int) < ((rPc r[k]).length : Int) := of_decide_eq_false h
        omega
      subst hj1
      refine ⟨by omega, k + 1, hk1, by omega, ?_⟩
      refine Le.sub ⟨rfl, ?_, rfl, trivial⟩ trivial
      show _ = encR r.length 1 ++ (r.take (k + 1)).flatMap fun b => encB (ownOf b)
      rw [hs, ← List.append_assoc, hA, hA3, List.take_length]
  · have hk1 : k = r.length := by
      have h : ¬ (k : Int) < (r.length : Int) := of_decide_eq_false h
      omega
    subst hk1
    exact ⟨_, _, _, Le.refl _ _, rfl, (show encR r.length 1 ++ ((r.take r.length).flatMap fun b => encB (ownOf b)) = _ by rw [List.take_length]), trivial, rfl⟩
end Go.Proofs.Ythghcdddambaeaa
