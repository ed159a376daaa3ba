/-
  slices.Clone of bytes.
-/
import Derived.Test.YtolaecebfkdbcaaGreatProg
import Derived.Test.YtolaecebfkdbcaaGreatBase
namespace Go.Proofs.YtolaecebfkdbcaaGreat
open Go.RowKit

theorem info_u8 : (Tryz.prog.info? 5).map (fun i => (i.zero, i.size, i.bytes)) = some (some (.int .u8 0), 1, 1) := by kernel_rfl

theorem size_u8 : (Tryz.prog.info? 5).map (·.size) = some 1 := by kernel_rfl

set_option maxHeartbeats 400000 in
theorem clone_bytes (v : Value) (l : List UInt8) (D : Nat → Prop) (w : World) (hv : Bytes D w v l) (hs : l.length ≤ 4294967296) :
    Calls Tryz.prog 120 #[v] w fun e w' => ∃ v', e = .returned v' ∧ Bytes (fun i => w.heap.size ≤ i) w' v' l ∧ Below w.heap.size w w' := by
  obtain ⟨A, c, rfl, hc1, hc2⟩ := hv.form
  have HV := Lib.hid hv
  clear hv
  generalize hn : l.length = n at *
  have Hn := Lib.hid hn
  clear hn
  rcases A with _ | ad
  · have hnil := Lib.run_eql_slice_nil (P := Tryz.prog)
    have h0 : l = [] := by
      obtain ⟨hl, A', c', he, _, _, h3⟩ := HV.out
      rcases Nat.eq_zero_or_pos l.length with h | h
      · exact List.eq_nil_of_length_eq_zero h
      · obtain ⟨b, o, ha, _⟩ := h3 h; subst ha; cases he
    have H0 := Lib.hid h0
    clear h0
    go_enter Tryz.func120, Tryz.ntmps120
    go_wp2_with fail
    go_ret
    refine ⟨_, rfl, ?_, Below.refl _ _⟩
    rw [H0.out]
    exact Sl.nil _ _ _
  · have hnil := Lib.run_eql_slice_nil (P := Tryz.prog)
    go_enter Tryz.func120, Tryz.ntmps120
    clear hc2 hc1
    go_wp2_with (at_builtin; refine wpList_append_sl _ rfl (.tmp 5) (.tmp 6) _ rfl w.heap.size 5 _ 1 1 Tryz.underlying27 info_u8 rfl (by omega) (.slice (some ⟨w.heap.size, 0, none⟩) 0 0) 0 [] rfl ?c1 D (.slice (some ad) n c) n (l.map byteV) rfl ?c2 (byteV_one l) ?c3 ?c4 ?c5 ?_)
    case c1 => exact ⟨by simp, .inr ⟨w.heap.size, 0, #[], rfl, Nat.le_refl _, heap_alloc_new w _, Nat.le_refl _, by decide, rfl, rfl⟩⟩
    case c2 =>
      have h := HV.out
      unfold Bytes at h
      rw [Hn.out] at h
      exact h.mono (Keeps.of_below ((Below.refl _ _).alloc (Nat.le_refl _) _)) (by simp) (fun _ _ h => h)
    case c3 => simp only [maxLen]; omega
    case c4 => omega
    case c5 => simp
    intro v' w1 hown hgr hat
    go_wp2
    go_ret
    refine ⟨v', rfl, ?_, ?_⟩
    · unfold Bytes
      rw [Hn.out]
      have h := Sl.of_own hown
      exact h.weaken fun i _ hi => (hown.lt i hi).1
    · exact ((Below.refl _ _).alloc (Nat.le_refl _) _).grown hgr (by simp) (fun k hk => by simp [Value.ownBlock] at hk; omega)
end Go.Proofs.YtolaecebfkdbcaaGreat
